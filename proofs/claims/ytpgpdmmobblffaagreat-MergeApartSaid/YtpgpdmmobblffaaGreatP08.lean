/- Part 8 of the ground of this proof: what its texts say of the model, the program and the plain data; conditions: those that are named. -/
import Derived.Test.YtpgpdmmobblffaaGreatP07
namespace Go.Proofs.YtpgpdmmobblffaaGreat
open Go Go.CF
set_option maxRecDepth 20000
instance {v : Value} {sz j r : Nat} : OneA (.oe v sz j r) := ⟨by rintro h G u ⟨b, o, len, cap, _, rfl⟩; rfl⟩
def usF (m : ModS) (e : EvS) : List UpS := match m.acts[e.action.toNat]? with
  | some a => a.eff.updates
  | none => []
noncomputable def cellsF (ts : List TblS) (l : List MgS) (us : List UpS) (e : EvS) : List (Int × MgS) := (List.range l.length).map fun (i : Nat) => match ts[i]?, l[i]? with
  | some t, some g => cellF e t (updF us i) g
  | _, _ => (0, ⟨false, false, []⟩)
theorem cellsF_at {ts : List TblS} {l : List MgS} {us : List UpS} {e : EvS} {i : Nat} {t : TblS} {g : MgS} (ht : ts[i]? = some t) (hg : l[i]? = some g) : (cellsF ts l us e)[i]? = some (cellF e t (updF us i) g) := by
  have hi := (List.getElem?_eq_some_iff.1 hg).1
  rw [cellsF, List.getElem?_map, List.getElem?_range hi, Option.map_some, ht, hg]
theorem cellsF_len {ts : List TblS} {l : List MgS} {us : List UpS} {e : EvS} : (cellsF ts l us e).length = l.length := by simp [cellsF]
noncomputable def gatherF (C : List (Int × MgS)) : Int × List MgS := match C.find? fun p => decide (p.1 ≠ 0 ∧ p.1 ≠ 8) with
  | some p => (p.1, [])
  | none => if ∃ p ∈ C, p.1 = 8 then (8, []) else (0, C.map (·.2))
noncomputable def applyF (m : ModS) (l : List MgS) (e : EvS) : Int × List MgS :=
  if ¬ (ValL (mrgF m) l ∧ EvV m (e.past.length : Nat) e) then (1, [])
  else if e.kind ≠ 0 then (0, l)
  else gatherF (cellsF (mrgF m) l (usF m e) e)
theorem updT_succ {us : List UpS} {i : Nat} {u : UpS} (h : us[i]? = some u) : updT (us.take (i + 1)) = updL (updT (us.take i)) [u.2.1] u := by
  rw [List.take_add_one, h, updT, List.foldl_append]; rfl
theorem gather_bad {C : List (Int × MgS)} {i : Nat} {q : Int × MgS} (hq : C[i]? = some q) (h1 : ∀ p ∈ C.take i, p.1 = 0 ∨ p.1 = 8) (h2 : q.1 ≠ 0) (h3 : q.1 ≠ 8) : gatherF C = (q.1, []) := by
  have hf : C.find? (fun p => decide (p.1 ≠ 0 ∧ p.1 ≠ 8)) = some q := find_at hq (by simp [h2, h3]) fun j y hj hy => by
    have := h1 y (List.mem_of_getElem? (i := j) (by rw [List.getElem?_take, if_pos hj]; exact hy))
    rcases this with h | h <;> simp [h]
  rw [gatherF, hf]
theorem gather_end {C : List (Int × MgS)} (h1 : ∀ p ∈ C, p.1 = 0 ∨ p.1 = 8) : gatherF C = if ∃ p ∈ C, p.1 = 8 then (8, []) else (0, C.map (·.2)) := by
  have hf : C.find? (fun p => decide (p.1 ≠ 0 ∧ p.1 ≠ 8)) = none := List.find?_eq_none.2 fun p hp => by
    rcases h1 p hp with h | h <;> simp [h]
  rw [gatherF, hf]
theorem cellF_none {e : EvS} {t : TblS} {u : UpS} {g : MgS} (h : lookL rulesL [t.kind, u.1] = none) : cellF e t (some u) g = (0, g) := by
  have no : ∀ a b : Int, t.kind = a ∧ u.1 = b → lookL rulesL [a, b] = none := fun a b ⟨h1, h2⟩ => by rw [← h1, ← h2]; exact h
  have n1 : ¬ (t.kind = 2 ∧ u.1 = 0) := fun h9 => absurd (no _ _ h9) (by decide)
  have n2 : ¬ (t.kind = 3 ∧ u.1 = 1) := fun h9 => absurd (no _ _ h9) (by decide)
  have n3 : ¬ (t.kind = 2 ∧ u.1 = 1) := fun h9 => absurd (no _ _ h9) (by decide)
  have n4 : ¬ (t.kind = 3 ∧ u.1 = 0) := fun h9 => absurd (no _ _ h9) (by decide)
  have n5 : ¬ (t.kind = 4 ∧ u.1 = 2) := fun h9 => absurd (no _ _ h9) (by decide)
  have n6 : ¬ (t.kind = 5 ∧ u.1 = 2) := fun h9 => absurd (no _ _ h9) (by decide)
  simp only [cellF, n1, n2, n3, n4, n5, n6, or_self, if_false]
/-- A list, or an error. -/
def ApK (q : Int × List MgS) (r : AV) (own : List Res) : Prop :=
  (∃ v L, q.1 = 0 ∧ r = .tup [.ow v, it 0] ∧ own = outR v L ∧ L.map MgE.g = q.2) ∨ (q.1 ≠ 0 ∧ r = .tup [.val (.slice none 0 0), it q.1] ∧ own = [])
set_option maxHeartbeats 4000000 in
theorem apply_a (m : ModS) (l : List MgS) (e : EvS) (hm : MOK m) : CallA Tryz.prog 12 [mdl m, mgs l, evA' e] [] (ApK (applyF m l e)) := by
  have hva := validM_p m l hm.lay
  have hev := evalid_p m (e.past.length : Nat) e
  by_cases hv : ValL (mrgF m) l ∧ EvV m (e.past.length : Nat) e
  rotate_left
  · have hF : applyF m l e = (1, []) := if_pos hv
    rw [hF]
    refine CallA.of pg ord12 Tryz.func12 rfl Tryz.ntmps12 Tryz.results12 rfl fun h0 G0 O0 => ?_
    by_cases h1 : ValL (mrgF m) l
    · have h2 : ¬ EvV m (e.past.length : Nat) e := fun h => hv ⟨h1, h⟩
      repeat' (first | refine Sp.h ?_ | refine Lk.r rfl ?_ | refine Rf.mk rfl ?_ | (apply Bd.t; (focus (first | assumption | omega | rfl))) | (apply Bd.f; (focus (first | assumption | omega | exact Bool.false_ne_true))) | (refine Im.mk ?_; intro _) | (refine All.mk ?_; intro _) | (apply TkB.r; (focus (repeat (first | exact Take.here | apply Take.there)))) | refine Ch.l ⟨rfl, rfl⟩ ?_ | (apply Nm.r; (focus repeat (first | apply LN.cons | exact LN.nil))) | fail | (apply Cl.p (hva); (focus repeat' (first | exact Lend.nil | apply Lend.keep | fail))) | (apply Cl.p (hev); (focus repeat' (first | exact Lend.nil | apply Lend.keep | fail))))
      exact ⟨_, _, .tup (.same (.same (.nil (by (repeat (first | exact Subl.nil | refine Subl.cons (by (repeat (first | exact Take.here | apply Take.there))) ?_)))))), .inr ⟨by decide, rfl, rfl⟩⟩
    · repeat' (first | refine Sp.h ?_ | refine Lk.r rfl ?_ | refine Rf.mk rfl ?_ | (apply Bd.f; (focus (first | assumption | omega | exact Bool.false_ne_true))) | (refine All.mk ?_; intro _) | (apply TkB.r; (focus (repeat (first | exact Take.here | apply Take.there)))) | refine Ch.l ⟨rfl, rfl⟩ ?_ | (apply Nm.r; (focus repeat (first | apply LN.cons | exact LN.nil))) | fail | (apply Cl.p (hva); (focus repeat' (first | exact Lend.nil | apply Lend.keep | fail))) | (apply Cl.p (hev); (focus repeat' (first | exact Lend.nil | apply Lend.keep | fail))))
      exact ⟨_, _, .tup (.same (.same (.nil (by (repeat (first | exact Subl.nil | refine Subl.cons (by (repeat (first | exact Take.here | apply Take.there))) ?_)))))), .inr ⟨by decide, rfl, rfl⟩⟩
  obtain ⟨h1, h2⟩ := hv
  have hl : l.length ≤ 20 := by have := h1.1; have := hm.mrg; omega
  have hg : ∀ (i : Nat) g, l[i]? = some g → ∃ t, (mrgF m)[i]? = some t ∧ ValG t g := fun i g hi => by
    obtain ⟨t, ht⟩ := get_of (l := mrgF m) (i := i) (by have := h1.1; have := (List.getElem?_eq_some_iff.1 hi).1; omega)
    exact ⟨t, ht, h1.2 i t g ht hi⟩
  have hcl := clone34_a l (by omega) (fun g hgm => by
    obtain ⟨i, hi⟩ := List.getElem?_of_mem hgm
    obtain ⟨t, _, hv⟩ := hg i g hi
    have := hv.1.2.2.2
    omega)
  have hce := cells_p m hm.lay
  have hru := rules_a
  by_cases hk : e.kind = 0
  rotate_left
  · have hF : applyF m l e = (0, l) := by rw [applyF, if_neg (fun h => h ⟨h1, h2⟩), if_pos hk]
    rw [hF]
    refine CallA.of pg ord12 Tryz.func12 rfl Tryz.ntmps12 Tryz.results12 rfl fun h0 G0 O0 => ?_
    repeat' (first | refine Sp.h ?_ | refine Lk.r rfl ?_ | refine Rf.mk rfl ?_ | (apply Bd.t; (focus (first | assumption | omega | rfl))) | (refine Im.mk ?_; intro _) | (refine All.mk ?_; intro _) | (apply TkB.r; (focus (repeat (first | exact Take.here | apply Take.there)))) | refine Ch.l ⟨rfl, rfl⟩ ?_ | fail | (apply Cl.p (hva); (focus repeat' (first | exact Lend.nil | apply Lend.keep | fail))) | (apply Cl.p (hev); (focus repeat' (first | exact Lend.nil | apply Lend.keep | fail))))
    (apply Cl.use (hcl); (focus repeat' (first | exact Lend.nil | apply Lend.keep | fail)); (focus (repeat (first | exact Takes.nil | (apply Takes.cons; (focus (repeat (first | exact Take.here | apply Take.there))))))); (focus rfl))
    rintro _ _ ⟨v, L, rfl, hL, rfl⟩
    repeat' (first | refine Sp.h ?_ | refine Lk.r rfl ?_ | refine Rf.mk rfl ?_ | (apply Bd.f; (focus (first | assumption | omega | exact Bool.false_ne_true))) | (apply TkB.r; (focus (repeat (first | exact Take.here | apply Take.there)))) | (apply Nm.r; (focus repeat (first | apply LN.cons | exact LN.nil))) | fail)
    exact ⟨_, _, .tup (.same (.same (.nil (by (repeat (first | exact Subl.nil | refine Subl.cons (by (repeat (first | exact Take.here | apply Take.there))) ?_)))))), .inl ⟨v, L, rfl, rfl, rfl, hL⟩⟩
  have hF : applyF m l e = gatherF (cellsF (mrgF m) l (usF m e) e) := by rw [applyF, if_neg (fun h => h ⟨h1, h2⟩), if_neg (fun h => h hk)]
  rw [hF]
  have ha1 : 0 ≤ e.action := by
    have h9 := h2.1.2.2.2.2.2
    simp only [KindOK, Sub0, Btw] at h9
    omega
  have ha2 := h2.2.2 hk
  obtain ⟨a, ha⟩ := get_of (l := m.acts) (i := e.action.toNat) (by omega)
  obtain ⟨n, hn⟩ : ∃ n : Nat, e.action = n := ⟨e.action.toNat, by omega⟩
  have hus : usF m e = a.eff.updates := by rw [usF, ha]
  rw [hn] at ha
  rw [hus]
  have ha3 : m.acts[n]? = some a := by simpa using ha
  refine CallA.of pg ord12 Tryz.func12 rfl Tryz.ntmps12 Tryz.results12 rfl fun h0 G0 O0 => ?_
  repeat' (first | refine Sp.h ?_ | refine Lk.r rfl ?_ | refine Rf.mk rfl ?_ | (apply Bd.t; (focus (first | assumption | omega | rfl))) | (refine Im.mk ?_; intro _) | (refine All.mk ?_; intro _) | (apply TkB.r; (focus (repeat (first | exact Take.here | apply Take.there)))) | refine Ch.l ⟨rfl, rfl⟩ ?_ | fail | (apply Cl.p (hva); (focus repeat' (first | exact Lend.nil | apply Lend.keep | fail))) | (apply Cl.p (hev); (focus repeat' (first | exact Lend.nil | apply Lend.keep | fail))))
  (apply Cl.use (hcl); (focus repeat' (first | exact Lend.nil | apply Lend.keep | fail)); (focus (repeat (first | exact Takes.nil | (apply Takes.cons; (focus (repeat (first | exact Take.here | apply Take.there))))))); (focus rfl))
  rintro _ _ ⟨v, L0, rfl, hL, rfl⟩
  repeat' (first | refine Sp.h ?_ | refine Lk.r rfl ?_ | refine Rf.mk rfl ?_ | (apply Bd.t; (focus (first | assumption | omega | rfl))) | (apply TkB.r; (focus (repeat (first | exact Take.here | apply Take.there)))) | refine Ch.l ⟨rfl, rfl⟩ ?_ | fail | (apply Cl.p (hce); (focus repeat' (first | exact Lend.nil | apply Lend.keep | fail))))
  (apply Cl.use (hru); (focus repeat' (first | exact Lend.nil | fail)); (focus (repeat (first | exact Takes.nil | (apply Takes.cons; (focus (repeat (first | exact Take.here | apply Take.there))))))); (focus rfl))
  rintro _ _ ⟨br, kvs, rfl, rfl, hlk⟩
  repeat' (first | refine Sp.h ?_ | refine Lk.r rfl ?_ | refine Rf.mk rfl ?_ | fail)
  refine MkM.r (fun u : UpS => AV.agg (updC u)) ?_
  repeat' (first | refine Sp.h ?_ | refine Lk.r rfl ?_ | refine Rf.mk rfl ?_ | (refine Im.mk ?_; intro _) | (refine All.mk ?_; intro _) | (apply TkB.r; (focus (repeat (first | exact Take.here | apply Take.there)))) | (apply Ix.r; (focus assumption); (focus omega)) | fail)
  refine CA.loop (fun i : Nat => ⟨[(5, pm _), (8, .ow v), (9, tbls (mrgF m)), (10, .val (.map (some br))), (11, .val (.map (some _))), (12, bl false), (53, .sl 3 a.eff.updates updC), (54, it (a.eff.updates.length : Nat)), (55, it i)],
      [arrR v 44 3 L0 mgeC, bunR (L0.map mgeR), mapR Tryz.prog br 108 kvs fnV, mapR Tryz.prog _ 3 (updT (a.eff.updates.take i)) (fun u : UpS => AV.agg (updC u)), blkR _ 37 (evC e)]⟩)
    (fun i => i ≤ a.eff.updates.length) (fun i => a.eff.updates.length - i) 0 ⟨by (repeat (first | exact trivial | refine ⟨rfl, ?_⟩)), by (repeat (first | exact Subl.nil | refine Subl.cons (by (repeat (first | exact Take.here | apply Take.there))) ?_))⟩ (Nat.zero_le _) ?_
  intro i hi
  by_cases hin : i < a.eff.updates.length
  · obtain ⟨u, hu⟩ := get_of hin
    have hsu := updT_succ hu
    repeat' (first | refine Sp.h ?_ | refine Lk.r rfl ?_ | refine Rf.mk rfl ?_ | (apply Bd.t; (focus (first | assumption | omega | rfl))) | (refine All.mk ?_; intro _) | (apply TkB.r; (focus (repeat (first | exact Take.here | apply Take.there)))) | (apply Ix.q; (focus exact rfl); (focus assumption)) | refine Ch.l ⟨rfl, rfl⟩ ?_ | (apply SetAsk.r; (focus (repeat (first | exact SetAs.z | (apply SetAs.c; (focus (repeat (first | assumption | exact SetA.z | apply SetA.s)))))))) | (apply Nm.r; (focus repeat (first | apply LN.cons | exact LN.nil))) | (apply Kf.mk; (focus kernel_rfl)) | (apply TkM.r; (focus (repeat (first | exact Take.here | apply Take.there)))) | refine UpV.r rfl ?_ | (apply Ov.n; (focus first | omega | (simp <;> omega))) | fail)
    rw [← hsu]
    exact PA.lp (i + 1) ⟨by (repeat (first | exact trivial | refine ⟨rfl, ?_⟩)), by (repeat (first | exact Subl.nil | refine Subl.cons (by (repeat (first | exact Take.here | apply Take.there))) ?_))⟩ ⟨hin, by omega⟩
  · have hie : i = a.eff.updates.length := by omega
    subst hie
    rw [List.take_length]
    have hlen : (mrgF m).length = l.length := h1.1
    obtain ⟨C, hC⟩ : ∃ C, C = cellsF (mrgF m) l a.eff.updates e := ⟨_, rfl⟩
    rw [← hC]
    (repeat' (first | (show CA _ _ (Code.region 13 _ _) _ _; apply Stopped.out) | refine Sp.h ?_ | refine Lk.r rfl ?_ | refine Rf.mk rfl ?_ | (apply Bd.f; (focus (first | assumption | omega | exact Bool.false_ne_true))) | fail)); any_goals apply Stopped.mk
    refine CA.sub ⟨[(5, pm _), (8, .ow v), (9, tbls (mrgF m)), (10, .val (.map (some br))), (11, .val (.map (some _))), (12, bl false)],
      [arrR v 44 3 L0 mgeC, bunR (L0.map mgeR), mapR Tryz.prog br 108 kvs fnV, mapR Tryz.prog _ 3 (updT a.eff.updates) (fun u : UpS => AV.agg (updC u)), blkR _ 37 (evC e)]⟩ ⟨by (repeat (first | exact trivial | refine ⟨rfl, ?_⟩)), by (repeat (first | exact Subl.nil | refine Subl.cons (by (repeat (first | exact Take.here | apply Take.there))) ?_))⟩ ?_
    repeat' (first | refine Sp.h ?_ | refine Lk.r rfl ?_ | refine Rf.mk rfl ?_ | (refine Im.mk ?_; intro _) | fail)
    rename_i b5 _ bu _ _
    refine CA.loop (fun x : Nat × List MgE × Bool => ⟨[(5, pm b5), (8, .ow v), (10, .val (.map (some br))), (11, .val (.map (some bu))), (12, bl x.2.2), (64, tbls (mrgF m)), (65, it ((mrgF m).length : Nat)), (66, it x.1)],
        [arrR v 44 3 x.2.1 mgeC, bunR (x.2.1.map mgeR), mapR Tryz.prog br 108 kvs fnV, mapR Tryz.prog bu 3 (updT a.eff.updates) (fun u : UpS => AV.agg (updC u)), blkR b5 37 (evC e)]⟩)
      (fun x => x.1 ≤ l.length ∧ x.2.1.map MgE.g = (C.take x.1).map (·.2) ++ l.drop x.1 ∧ (∀ p ∈ C.take x.1, p.1 = 0 ∨ p.1 = 8) ∧ (x.2.2 = true ↔ ∃ p ∈ C.take x.1, p.1 = 8)) (fun x => l.length - x.1) (0, L0, false) ⟨by (repeat (first | exact trivial | refine ⟨rfl, ?_⟩)), by (repeat (first | exact Subl.nil | refine Subl.cons (by (repeat (first | exact Take.here | apply Take.there))) ?_))⟩ ⟨Nat.zero_le _, by simpa using hL, by simp, by simp⟩ ?_
    rintro ⟨i, D, lg⟩ ⟨g1, g2, g3, g4⟩
    simp only at g1 g2 g3 g4
    simp only
    by_cases hin : i < l.length
    · obtain ⟨g, hgi⟩ := get_of hin
      obtain ⟨t, hti, hvg⟩ := hg i g hgi
      have hq : C[i]? = some (cellF e t (updF a.eff.updates i) g) := by rw [hC]; exact cellsF_at hti hgi
      have htl : (C.take i).length = i := by have := (List.getElem?_eq_some_iff.1 hq).1; simp; omega
      have hDi : (D.map MgE.g)[i]? = some g := by
        rw [g2, List.getElem?_append_right (by simp; omega), List.getElem?_drop, List.length_map, htl]
        simpa using hgi
      obtain ⟨x, hx, hxg⟩ : ∃ x, D[i]? = some x ∧ x.g = g := by
        rw [List.getElem?_map] at hDi
        cases hd : D[i]? with
        | none => rw [hd] at hDi; cases hDi
        | some x => rw [hd] at hDi; exact ⟨x, rfl, by simpa using hDi⟩
      have hDl := (List.getElem?_eq_some_iff.1 hx).1
      have hml : x.marks.length ≤ 1024 := by have := hvg.1.2.2.2; rw [← hxg] at this; exact this
      have hsrt : SrtK x.marks := by have := hvg.srt; rw [← hxg] at this; exact this
      have hreg := register_p t
      have hlu := updT_look a.eff.updates i
      have hbad : ∀ c y, cellF e t (updF a.eff.updates i) g = (c, y) → c ≠ 0 → c ≠ 8 → gatherF C = (c, []) := fun c y h h0 h8 => gather_bad (h ▸ hq) g3 h0 h8
      have hsame : D.set i x = D := by
        apply List.ext_getElem?
        intro j
        rw [List.getElem?_set]
        split
        · rename_i hj; subst hj; first | rw [if_pos hDl, hx] | rw [hx]
        · rfl
      (repeat' (first | (show CA _ _ (Code.block 3 _) _ _; apply Stopped.out) | refine Sp.h ?_ | refine Lk.r rfl ?_ | refine Rf.mk rfl ?_ | (apply Bd.t; (focus (first | assumption | omega | rfl))) | fail)); any_goals apply Stopped.mk
      apply CA.bunTake (l := D) (g := mgeR) (i := i) (x := x)
      focus (repeat (first | exact Take.here | apply Take.there))
      focus exact hx
      refine CA.cut (fun p : List MgE × MgE × Bool => ⟨[(5, pm b5), (8, .ow v), (10, .val (.map (some br))), (11, .val (.map (some bu))), (12, bl p.2.2), (64, tbls (mrgF m)), (65, it ((mrgF m).length : Nat)), (66, it i)],
        [arrR v 44 3 p.1 mgeC, mgeR p.2.1, bunR ((D.eraseIdx i).map mgeR), mapR Tryz.prog br 108 kvs fnV, mapR Tryz.prog bu 3 (updT a.eff.updates) (fun u : UpS => AV.agg (updC u)), blkR b5 37 (evC e)]⟩)
        (fun p => p.1 = D.set i p.2.1 ∧ p.2.1.g = (cellF e t (updF a.eff.updates i) g).2 ∧ ((cellF e t (updF a.eff.updates i) g).1 = 0 ∧ p.2.2 = lg ∨ (cellF e t (updF a.eff.updates i) g).1 = 8 ∧ p.2.2 = true)) ?_ ?_
      · cases hup : updF a.eff.updates i with
        | none =>
          rw [hup] at hlu
          rcases hz : lookL rulesL [t.kind, 0] with _ | f0
          · rw [← hlk] at hz
            repeat' (first | refine Sp.h ?_ | refine Lk.r rfl ?_ | refine Rf.mk rfl ?_ | (apply Bd.f; (focus (first | assumption | omega | exact Bool.false_ne_true))) | (refine All.mk ?_; intro _) | (apply TkB.r; (focus (repeat (first | exact Take.here | apply Take.there)))) | (apply Ix.q; (focus exact rfl); (focus assumption)) | refine Ch.l ⟨rfl, rfl⟩ ?_ | (apply SetAsk.r; (focus (repeat (first | exact SetAs.z | (apply SetAs.c; (focus (repeat (first | assumption | exact SetA.z | apply SetA.s)))))))) | (apply Fk.r; (focus (repeat (first | exact FillA.nil | (apply FillA.agg; (focus rfl); (focus rfl); (focus (repeat (first | exact SetAs.z | (apply SetAs.c; (focus (repeat (first | assumption | exact SetA.z | apply SetA.s)))))))) | (apply FillA.one; (focus rfl); (focus infer_instance); (focus (repeat (first | assumption | exact SetA.z | apply SetA.s)))))))) | (apply Nm.r; (focus repeat (first | apply LN.cons | exact LN.nil))) | (apply Il.r; (focus repeat (first | apply ILit.cons | exact ILit.nil))) | (apply Kf.mk; (focus kernel_rfl)) | (apply TkM.r; (focus (repeat (first | exact Take.here | apply Take.there)))) | (apply Zx.agg; (focus rfl); (focus rfl); (focus repeat (first | apply LN.cons | exact LN.nil))) | apply Zx.one | (apply LkM.n; (focus first | assumption | rfl)) | fail)
            all_goals exact PA.lp (D, x, lg) ⟨by (repeat (first | exact trivial | refine ⟨rfl, ?_⟩)), by (repeat (first | exact Subl.nil | refine Subl.cons (by (repeat (first | exact Take.here | apply Take.there))) ?_))⟩ ⟨hsame.symm, hxg, .inl ⟨rfl, rfl⟩⟩
          · rw [← hlk] at hz
            repeat' (first | refine Sp.h ?_ | refine Lk.r rfl ?_ | refine Rf.mk rfl ?_ | (apply Bd.f; (focus (first | assumption | omega | exact Bool.false_ne_true))) | (refine All.mk ?_; intro _) | (apply TkB.r; (focus (repeat (first | exact Take.here | apply Take.there)))) | (apply Ix.q; (focus exact rfl); (focus assumption)) | refine Ch.l ⟨rfl, rfl⟩ ?_ | (apply SetAsk.r; (focus (repeat (first | exact SetAs.z | (apply SetAs.c; (focus (repeat (first | assumption | exact SetA.z | apply SetA.s)))))))) | (apply Fk.r; (focus (repeat (first | exact FillA.nil | (apply FillA.agg; (focus rfl); (focus rfl); (focus (repeat (first | exact SetAs.z | (apply SetAs.c; (focus (repeat (first | assumption | exact SetA.z | apply SetA.s)))))))) | (apply FillA.one; (focus rfl); (focus infer_instance); (focus (repeat (first | assumption | exact SetA.z | apply SetA.s)))))))) | (apply Nm.r; (focus repeat (first | apply LN.cons | exact LN.nil))) | (apply Il.r; (focus repeat (first | apply ILit.cons | exact ILit.nil))) | (apply Kf.mk; (focus kernel_rfl)) | (apply TkM.r; (focus (repeat (first | exact Take.here | apply Take.there)))) | (apply Zx.agg; (focus rfl); (focus rfl); (focus repeat (first | apply LN.cons | exact LN.nil))) | (apply LkM.s; (focus first | assumption | rfl)) | (apply LkM.n; (focus first | assumption | rfl)) | fail)
            all_goals exact PA.lp (D, x, lg) ⟨by (repeat (first | exact trivial | refine ⟨rfl, ?_⟩)), by (repeat (first | exact Subl.nil | refine Subl.cons (by (repeat (first | exact Take.here | apply Take.there))) ?_))⟩ ⟨hsame.symm, hxg, .inl ⟨rfl, rfl⟩⟩
        | some u =>
          obtain ⟨uk, uc, uv⟩ := u
          rw [hup] at hlu hbad
          rcases rules_cases t.kind uk with hz | ⟨k1, k2, hz⟩ | ⟨k1, k2, hz⟩ | ⟨k1, k2, hz⟩ | ⟨k1, k2, hz⟩ | ⟨k1, k2, hz⟩ | ⟨k1, k2, hz⟩
          · have hcell := cellF_none (e := e) (g := g) (u := (uk, uc, uv)) hz
            rw [← hlk] at hz
            repeat' (first | refine Sp.h ?_ | refine Lk.r rfl ?_ | refine Rf.mk rfl ?_ | (apply Bd.t; (focus (first | assumption | omega | rfl))) | (apply Bd.f; (focus (first | assumption | omega | exact Bool.false_ne_true))) | (refine All.mk ?_; intro _) | (apply TkB.r; (focus (repeat (first | exact Take.here | apply Take.there)))) | (apply Ix.q; (focus exact rfl); (focus assumption)) | refine Ch.l ⟨rfl, rfl⟩ ?_ | (apply SetAsk.r; (focus (repeat (first | exact SetAs.z | (apply SetAs.c; (focus (repeat (first | assumption | exact SetA.z | apply SetA.s)))))))) | (apply Fk.r; (focus (repeat (first | exact FillA.nil | (apply FillA.agg; (focus rfl); (focus rfl); (focus (repeat (first | exact SetAs.z | (apply SetAs.c; (focus (repeat (first | assumption | exact SetA.z | apply SetA.s)))))))) | (apply FillA.one; (focus rfl); (focus infer_instance); (focus (repeat (first | assumption | exact SetA.z | apply SetA.s)))))))) | (apply Nm.r; (focus repeat (first | apply LN.cons | exact LN.nil))) | (apply Il.r; (focus repeat (first | apply ILit.cons | exact ILit.nil))) | (apply Kf.mk; (focus kernel_rfl)) | (apply TkM.r; (focus (repeat (first | exact Take.here | apply Take.there)))) | apply Zx.one | (apply LkM.s; (focus first | assumption | rfl)) | (apply LkM.n; (focus first | assumption | rfl)) | fail)
            all_goals exact PA.lp (D, x, lg) ⟨by (repeat (first | exact trivial | refine ⟨rfl, ?_⟩)), by (repeat (first | exact Subl.nil | refine Subl.cons (by (repeat (first | exact Take.here | apply Take.there))) ?_))⟩ ⟨hsame.symm, by rw [hcell]; exact hxg, .inl ⟨by rw [hcell], rfl⟩⟩
          · have hr : ¬ isReg t.kind := by unfold isReg; omega
            have hcell : cellF e t (some (uk, uc, uv)) g = ((addF x.marks ⟨e.rep, e.num, e.time, 0⟩).1, ⟨x.put, x.drop, (addF x.marks ⟨e.rep, e.num, e.time, 0⟩).2⟩) := by
              rw [← hxg]; simp [cellF, k1, k2, isReg, MgE.g]
            have hcon := add_a v i e ⟨e.rep, e.num, e.time, 0⟩ D x hx (hsrt.mono _) hml
            rw [← hlk] at hz
            repeat' (first | refine Sp.h ?_ | refine Lk.r rfl ?_ | refine Rf.mk rfl ?_ | (apply Bd.t; (focus (first | assumption | omega | rfl))) | (apply Bd.f; (focus (first | assumption | omega | exact Bool.false_ne_true))) | refine OpK.r rfl ?_ | (refine All.mk ?_; intro _) | (apply TkA.r; (focus (repeat (first | exact Take.here | apply Take.there)))) | (apply TkB.r; (focus (repeat (first | exact Take.here | apply Take.there)))) | (apply Ix.q; (focus exact rfl); (focus assumption)) | refine Ch.l ⟨rfl, rfl⟩ ?_ | (apply SetAsk.r; (focus (repeat (first | exact SetAs.z | (apply SetAs.c; (focus (repeat (first | assumption | exact SetA.z | apply SetA.s)))))))) | (apply Fk.r; (focus (repeat (first | exact FillA.nil | (apply FillA.agg; (focus rfl); (focus rfl); (focus (repeat (first | exact SetAs.z | (apply SetAs.c; (focus (repeat (first | assumption | exact SetA.z | apply SetA.s)))))))) | (apply FillA.one; (focus rfl); (focus infer_instance); (focus (repeat (first | assumption | exact SetA.z | apply SetA.s)))))))) | (apply Nm.r; (focus repeat (first | apply LN.cons | exact LN.nil))) | (apply Il.r; (focus repeat (first | apply ILit.cons | exact ILit.nil))) | (apply Kf.mk; (focus kernel_rfl)) | (apply TkM.r; (focus (repeat (first | exact Take.here | apply Take.there)))) | (apply LkM.s; (focus first | assumption | rfl)) | (apply CA.draw; (focus rfl); (focus kernel_rfl); (focus kernel_rfl); (focus repeat' (first | apply ON.one | exact ON.done | exact ON.none | apply ON.alt)); (focus rfl)) | fail | (apply Cl.p (hreg); (focus repeat' (first | exact Lend.nil | apply Lend.keep | fail))))
            (apply Cl.use (hcon); (focus repeat' (first | exact Lend.nil | apply Lend.keep | fail)); (focus (repeat (first | exact Takes.nil | (apply Takes.cons; (focus (repeat (first | exact Take.here | apply Take.there))))))); (focus rfl))
            rintro _ _ ⟨w', rfl, rfl⟩
            repeat' (first | refine Sp.h ?_ | refine Lk.r rfl ?_ | refine Rf.mk rfl ?_ | (refine Bd.mk ?_ ?_ <;> intro _) | (apply Nm.r; (focus repeat (first | apply LN.cons | exact LN.nil))) | fail)
            · exact PA.lp (D.set i ⟨x.put, x.drop, w', (addF x.marks ⟨e.rep, e.num, e.time, 0⟩).2⟩, ⟨x.put, x.drop, w', (addF x.marks ⟨e.rep, e.num, e.time, 0⟩).2⟩, lg) ⟨by (repeat (first | exact trivial | refine ⟨rfl, ?_⟩)), by (repeat (first | exact Subl.nil | refine Subl.cons (by (repeat (first | exact Take.here | apply Take.there))) ?_))⟩ ⟨rfl, by rw [hcell]; rfl, .inl ⟨by rw [hcell]; assumption, rfl⟩⟩
            · exact PA.lp (D.set i ⟨x.put, x.drop, w', (addF x.marks ⟨e.rep, e.num, e.time, 0⟩).2⟩, ⟨x.put, x.drop, w', (addF x.marks ⟨e.rep, e.num, e.time, 0⟩).2⟩, true) ⟨by (repeat (first | exact trivial | refine ⟨rfl, ?_⟩)), by (repeat (first | exact Subl.nil | refine Subl.cons (by (repeat (first | exact Take.here | apply Take.there))) ?_))⟩ ⟨rfl, by rw [hcell]; rfl, .inr ⟨by rw [hcell]; assumption, rfl⟩⟩
            · rw [hbad _ _ hcell (by assumption) (by assumption)]
              exact ⟨_, _, .tup (.same (.same (.nil (by (repeat (first | exact Subl.nil | refine Subl.cons (by (repeat (first | exact Take.here | apply Take.there))) ?_)))))), .inr ⟨by assumption, rfl, rfl⟩⟩
          · have hr : ¬ isReg t.kind := by unfold isReg; omega
            have hcell : cellF e t (some (uk, uc, uv)) g = (0, ⟨false, x.drop, fgK e.past x.marks⟩) := by
              rw [← hxg]; simp [cellF, k1, k2, MgE.g]
            have hcon := drop_a v i e ⟨e.rep, e.num, e.time, 0⟩ D x hx hml
            rw [← hlk] at hz
            repeat' (first | refine Sp.h ?_ | refine Lk.r rfl ?_ | refine Rf.mk rfl ?_ | (apply Bd.t; (focus (first | assumption | omega | rfl))) | (apply Bd.f; (focus (first | assumption | omega | exact Bool.false_ne_true))) | refine OpK.r rfl ?_ | (refine All.mk ?_; intro _) | (apply TkA.r; (focus (repeat (first | exact Take.here | apply Take.there)))) | (apply TkB.r; (focus (repeat (first | exact Take.here | apply Take.there)))) | (apply Ix.q; (focus exact rfl); (focus assumption)) | refine Ch.l ⟨rfl, rfl⟩ ?_ | (apply SetAsk.r; (focus (repeat (first | exact SetAs.z | (apply SetAs.c; (focus (repeat (first | assumption | exact SetA.z | apply SetA.s)))))))) | (apply Fk.r; (focus (repeat (first | exact FillA.nil | (apply FillA.agg; (focus rfl); (focus rfl); (focus (repeat (first | exact SetAs.z | (apply SetAs.c; (focus (repeat (first | assumption | exact SetA.z | apply SetA.s)))))))) | (apply FillA.one; (focus rfl); (focus infer_instance); (focus (repeat (first | assumption | exact SetA.z | apply SetA.s)))))))) | (apply Nm.r; (focus repeat (first | apply LN.cons | exact LN.nil))) | (apply Il.r; (focus repeat (first | apply ILit.cons | exact ILit.nil))) | (apply Kf.mk; (focus kernel_rfl)) | (apply TkM.r; (focus (repeat (first | exact Take.here | apply Take.there)))) | (apply LkM.s; (focus first | assumption | rfl)) | (apply CA.draw; (focus rfl); (focus kernel_rfl); (focus kernel_rfl); (focus repeat' (first | apply ON.one | exact ON.done | exact ON.none | apply ON.alt)); (focus rfl)) | fail | (apply Cl.p (hreg); (focus repeat' (first | exact Lend.nil | apply Lend.keep | fail))))
            (apply Cl.use (hcon); (focus repeat' (first | exact Lend.nil | apply Lend.keep | fail)); (focus (repeat (first | exact Takes.nil | (apply Takes.cons; (focus (repeat (first | exact Take.here | apply Take.there))))))); (focus rfl))
            rintro _ _ ⟨rfl, w', rfl⟩
            repeat' (first | refine Sp.h ?_ | refine Lk.r rfl ?_ | refine Rf.mk rfl ?_ | (apply Bd.t; (focus (first | assumption | omega | rfl))) | fail)
            exact PA.lp (D.set i ⟨false, x.drop, w', fgK e.past x.marks⟩, ⟨false, x.drop, w', fgK e.past x.marks⟩, lg) ⟨by (repeat (first | exact trivial | refine ⟨rfl, ?_⟩)), by (repeat (first | exact Subl.nil | refine Subl.cons (by (repeat (first | exact Take.here | apply Take.there))) ?_))⟩ ⟨rfl, by rw [hcell]; rfl, .inl ⟨by rw [hcell], rfl⟩⟩
          · have hr : ¬ isReg t.kind := by unfold isReg; omega
            have hcell : cellF e t (some (uk, uc, uv)) g = (0, ⟨true, false, fgK e.past x.marks⟩) := by
              rw [← hxg]; simp [cellF, k1, k2, MgE.g]
            have hcon := put_a v i e ⟨e.rep, e.num, e.time, 0⟩ D x hx hml
            rw [← hlk] at hz
            repeat' (first | refine Sp.h ?_ | refine Lk.r rfl ?_ | refine Rf.mk rfl ?_ | (apply Bd.t; (focus (first | assumption | omega | rfl))) | (apply Bd.f; (focus (first | assumption | omega | exact Bool.false_ne_true))) | refine OpK.r rfl ?_ | (refine All.mk ?_; intro _) | (apply TkA.r; (focus (repeat (first | exact Take.here | apply Take.there)))) | (apply TkB.r; (focus (repeat (first | exact Take.here | apply Take.there)))) | (apply Ix.q; (focus exact rfl); (focus assumption)) | refine Ch.l ⟨rfl, rfl⟩ ?_ | (apply SetAsk.r; (focus (repeat (first | exact SetAs.z | (apply SetAs.c; (focus (repeat (first | assumption | exact SetA.z | apply SetA.s)))))))) | (apply Fk.r; (focus (repeat (first | exact FillA.nil | (apply FillA.agg; (focus rfl); (focus rfl); (focus (repeat (first | exact SetAs.z | (apply SetAs.c; (focus (repeat (first | assumption | exact SetA.z | apply SetA.s)))))))) | (apply FillA.one; (focus rfl); (focus infer_instance); (focus (repeat (first | assumption | exact SetA.z | apply SetA.s)))))))) | (apply Nm.r; (focus repeat (first | apply LN.cons | exact LN.nil))) | (apply Il.r; (focus repeat (first | apply ILit.cons | exact ILit.nil))) | (apply Kf.mk; (focus kernel_rfl)) | (apply TkM.r; (focus (repeat (first | exact Take.here | apply Take.there)))) | (apply LkM.s; (focus first | assumption | rfl)) | (apply CA.draw; (focus rfl); (focus kernel_rfl); (focus kernel_rfl); (focus repeat' (first | apply ON.one | exact ON.done | exact ON.none | apply ON.alt)); (focus rfl)) | fail | (apply Cl.p (hreg); (focus repeat' (first | exact Lend.nil | apply Lend.keep | fail))))
            (apply Cl.use (hcon); (focus repeat' (first | exact Lend.nil | apply Lend.keep | fail)); (focus (repeat (first | exact Takes.nil | (apply Takes.cons; (focus (repeat (first | exact Take.here | apply Take.there))))))); (focus rfl))
            rintro _ _ ⟨rfl, w', rfl⟩
            repeat' (first | refine Sp.h ?_ | refine Lk.r rfl ?_ | refine Rf.mk rfl ?_ | (apply Bd.t; (focus (first | assumption | omega | rfl))) | fail)
            exact PA.lp (D.set i ⟨true, false, w', fgK e.past x.marks⟩, ⟨true, false, w', fgK e.past x.marks⟩, lg) ⟨by (repeat (first | exact trivial | refine ⟨rfl, ?_⟩)), by (repeat (first | exact Subl.nil | refine Subl.cons (by (repeat (first | exact Take.here | apply Take.there))) ?_))⟩ ⟨rfl, by rw [hcell]; rfl, .inl ⟨by rw [hcell], rfl⟩⟩
          · have hr : ¬ isReg t.kind := by unfold isReg; omega
            have hcell : cellF e t (some (uk, uc, uv)) g = ((addF x.marks ⟨e.rep, e.num, e.time, 0⟩).1, ⟨x.put, x.drop, (addF x.marks ⟨e.rep, e.num, e.time, 0⟩).2⟩) := by
              rw [← hxg]; simp [cellF, k1, k2, isReg, MgE.g]
            have hcon := add_a v i e ⟨e.rep, e.num, e.time, 0⟩ D x hx (hsrt.mono _) hml
            rw [← hlk] at hz
            repeat' (first | refine Sp.h ?_ | refine Lk.r rfl ?_ | refine Rf.mk rfl ?_ | (apply Bd.t; (focus (first | assumption | omega | rfl))) | (apply Bd.f; (focus (first | assumption | omega | exact Bool.false_ne_true))) | refine OpK.r rfl ?_ | (refine All.mk ?_; intro _) | (apply TkA.r; (focus (repeat (first | exact Take.here | apply Take.there)))) | (apply TkB.r; (focus (repeat (first | exact Take.here | apply Take.there)))) | (apply Ix.q; (focus exact rfl); (focus assumption)) | refine Ch.l ⟨rfl, rfl⟩ ?_ | (apply SetAsk.r; (focus (repeat (first | exact SetAs.z | (apply SetAs.c; (focus (repeat (first | assumption | exact SetA.z | apply SetA.s)))))))) | (apply Fk.r; (focus (repeat (first | exact FillA.nil | (apply FillA.agg; (focus rfl); (focus rfl); (focus (repeat (first | exact SetAs.z | (apply SetAs.c; (focus (repeat (first | assumption | exact SetA.z | apply SetA.s)))))))) | (apply FillA.one; (focus rfl); (focus infer_instance); (focus (repeat (first | assumption | exact SetA.z | apply SetA.s)))))))) | (apply Nm.r; (focus repeat (first | apply LN.cons | exact LN.nil))) | (apply Il.r; (focus repeat (first | apply ILit.cons | exact ILit.nil))) | (apply Kf.mk; (focus kernel_rfl)) | (apply TkM.r; (focus (repeat (first | exact Take.here | apply Take.there)))) | (apply LkM.s; (focus first | assumption | rfl)) | (apply CA.draw; (focus rfl); (focus kernel_rfl); (focus kernel_rfl); (focus repeat' (first | apply ON.one | exact ON.done | exact ON.none | apply ON.alt)); (focus rfl)) | fail | (apply Cl.p (hreg); (focus repeat' (first | exact Lend.nil | apply Lend.keep | fail))))
            (apply Cl.use (hcon); (focus repeat' (first | exact Lend.nil | apply Lend.keep | fail)); (focus (repeat (first | exact Takes.nil | (apply Takes.cons; (focus (repeat (first | exact Take.here | apply Take.there))))))); (focus rfl))
            rintro _ _ ⟨w', rfl, rfl⟩
            repeat' (first | refine Sp.h ?_ | refine Lk.r rfl ?_ | refine Rf.mk rfl ?_ | (refine Bd.mk ?_ ?_ <;> intro _) | (apply Nm.r; (focus repeat (first | apply LN.cons | exact LN.nil))) | fail)
            · exact PA.lp (D.set i ⟨x.put, x.drop, w', (addF x.marks ⟨e.rep, e.num, e.time, 0⟩).2⟩, ⟨x.put, x.drop, w', (addF x.marks ⟨e.rep, e.num, e.time, 0⟩).2⟩, lg) ⟨by (repeat (first | exact trivial | refine ⟨rfl, ?_⟩)), by (repeat (first | exact Subl.nil | refine Subl.cons (by (repeat (first | exact Take.here | apply Take.there))) ?_))⟩ ⟨rfl, by rw [hcell]; rfl, .inl ⟨by rw [hcell]; assumption, rfl⟩⟩
            · exact PA.lp (D.set i ⟨x.put, x.drop, w', (addF x.marks ⟨e.rep, e.num, e.time, 0⟩).2⟩, ⟨x.put, x.drop, w', (addF x.marks ⟨e.rep, e.num, e.time, 0⟩).2⟩, true) ⟨by (repeat (first | exact trivial | refine ⟨rfl, ?_⟩)), by (repeat (first | exact Subl.nil | refine Subl.cons (by (repeat (first | exact Take.here | apply Take.there))) ?_))⟩ ⟨rfl, by rw [hcell]; rfl, .inr ⟨by rw [hcell]; assumption, rfl⟩⟩
            · rw [hbad _ _ hcell (by assumption) (by assumption)]
              exact ⟨_, _, .tup (.same (.same (.nil (by (repeat (first | exact Subl.nil | refine Subl.cons (by (repeat (first | exact Take.here | apply Take.there))) ?_)))))), .inr ⟨by assumption, rfl, rfl⟩⟩
          · have hr : isReg t.kind := by unfold isReg; omega
            have hcell : cellF e t (some (uk, uc, uv)) g = ((lastF x.marks ⟨e.rep, e.num, e.time, uv⟩).1, ⟨x.put, x.drop, (lastF x.marks ⟨e.rep, e.num, e.time, uv⟩).2⟩) := by
              rw [← hxg]; simp [cellF, k1, k2, isReg, MgE.g]
            have hcon := last_a v i e ⟨e.rep, e.num, e.time, uv⟩ D x hx hml
            rw [← hlk] at hz
            repeat' (first | refine Sp.h ?_ | refine Lk.r rfl ?_ | refine Rf.mk rfl ?_ | (apply Bd.t; (focus (first | assumption | omega | rfl))) | refine OpK.r rfl ?_ | (refine All.mk ?_; intro _) | (apply TkA.r; (focus (repeat (first | exact Take.here | apply Take.there)))) | (apply TkB.r; (focus (repeat (first | exact Take.here | apply Take.there)))) | (apply Ix.q; (focus exact rfl); (focus assumption)) | refine Ch.l ⟨rfl, rfl⟩ ?_ | (apply SetAk.r; (focus (repeat (first | assumption | exact SetA.z | apply SetA.s)))) | (apply SetAsk.r; (focus (repeat (first | exact SetAs.z | (apply SetAs.c; (focus (repeat (first | assumption | exact SetA.z | apply SetA.s)))))))) | (apply Fk.r; (focus (repeat (first | exact FillA.nil | (apply FillA.agg; (focus rfl); (focus rfl); (focus (repeat (first | exact SetAs.z | (apply SetAs.c; (focus (repeat (first | assumption | exact SetA.z | apply SetA.s)))))))) | (apply FillA.one; (focus rfl); (focus infer_instance); (focus (repeat (first | assumption | exact SetA.z | apply SetA.s)))))))) | (apply Nm.r; (focus repeat (first | apply LN.cons | exact LN.nil))) | (apply Il.r; (focus repeat (first | apply ILit.cons | exact ILit.nil))) | (apply Kf.mk; (focus kernel_rfl)) | (apply TkM.r; (focus (repeat (first | exact Take.here | apply Take.there)))) | (apply LkM.s; (focus first | assumption | rfl)) | (apply CA.draw; (focus rfl); (focus kernel_rfl); (focus kernel_rfl); (focus repeat' (first | apply ON.one | exact ON.done | exact ON.none | apply ON.alt)); (focus rfl)) | fail | (apply Cl.p (hreg); (focus repeat' (first | exact Lend.nil | apply Lend.keep | fail))))
            (apply Cl.use (hcon); (focus repeat' (first | exact Lend.nil | apply Lend.keep | fail)); (focus (repeat (first | exact Takes.nil | (apply Takes.cons; (focus (repeat (first | exact Take.here | apply Take.there))))))); (focus rfl))
            rintro _ _ ⟨rfl, w', rfl⟩
            repeat' (first | refine Sp.h ?_ | refine Lk.r rfl ?_ | refine Rf.mk rfl ?_ | (refine Bd.mk ?_ ?_ <;> intro _) | (apply Nm.r; (focus repeat (first | apply LN.cons | exact LN.nil))) | fail)
            · exact PA.lp (D.set i ⟨x.put, x.drop, w', (lastF x.marks ⟨e.rep, e.num, e.time, uv⟩).2⟩, ⟨x.put, x.drop, w', (lastF x.marks ⟨e.rep, e.num, e.time, uv⟩).2⟩, lg) ⟨by (repeat (first | exact trivial | refine ⟨rfl, ?_⟩)), by (repeat (first | exact Subl.nil | refine Subl.cons (by (repeat (first | exact Take.here | apply Take.there))) ?_))⟩ ⟨rfl, by rw [hcell]; rfl, .inl ⟨by rw [hcell]; assumption, rfl⟩⟩
            · exact PA.lp (D.set i ⟨x.put, x.drop, w', (lastF x.marks ⟨e.rep, e.num, e.time, uv⟩).2⟩, ⟨x.put, x.drop, w', (lastF x.marks ⟨e.rep, e.num, e.time, uv⟩).2⟩, true) ⟨by (repeat (first | exact trivial | refine ⟨rfl, ?_⟩)), by (repeat (first | exact Subl.nil | refine Subl.cons (by (repeat (first | exact Take.here | apply Take.there))) ?_))⟩ ⟨rfl, by rw [hcell]; rfl, .inr ⟨by rw [hcell]; assumption, rfl⟩⟩
            · rw [hbad _ _ hcell (by assumption) (by assumption)]
              exact ⟨_, _, .tup (.same (.same (.nil (by (repeat (first | exact Subl.nil | refine Subl.cons (by (repeat (first | exact Take.here | apply Take.there))) ?_)))))), .inr ⟨by assumption, rfl, rfl⟩⟩
          · have hr : isReg t.kind := by unfold isReg; omega
            have hcell : cellF e t (some (uk, uc, uv)) g = ((addF (fgK e.past x.marks) ⟨e.rep, e.num, e.time, uv⟩).1, ⟨x.put, x.drop, (addF (fgK e.past x.marks) ⟨e.rep, e.num, e.time, uv⟩).2⟩) := by
              rw [← hxg]; simp [cellF, k1, k2, isReg, MgE.g]
            have hcon := multi_a v i e ⟨e.rep, e.num, e.time, uv⟩ D x hx hml ((hsrt.filter _).mono _)
            rw [← hlk] at hz
            repeat' (first | refine Sp.h ?_ | refine Lk.r rfl ?_ | refine Rf.mk rfl ?_ | (apply Bd.t; (focus (first | assumption | omega | rfl))) | refine OpK.r rfl ?_ | (refine All.mk ?_; intro _) | (apply TkA.r; (focus (repeat (first | exact Take.here | apply Take.there)))) | (apply TkB.r; (focus (repeat (first | exact Take.here | apply Take.there)))) | (apply Ix.q; (focus exact rfl); (focus assumption)) | refine Ch.l ⟨rfl, rfl⟩ ?_ | (apply SetAk.r; (focus (repeat (first | assumption | exact SetA.z | apply SetA.s)))) | (apply SetAsk.r; (focus (repeat (first | exact SetAs.z | (apply SetAs.c; (focus (repeat (first | assumption | exact SetA.z | apply SetA.s)))))))) | (apply Fk.r; (focus (repeat (first | exact FillA.nil | (apply FillA.agg; (focus rfl); (focus rfl); (focus (repeat (first | exact SetAs.z | (apply SetAs.c; (focus (repeat (first | assumption | exact SetA.z | apply SetA.s)))))))) | (apply FillA.one; (focus rfl); (focus infer_instance); (focus (repeat (first | assumption | exact SetA.z | apply SetA.s)))))))) | (apply Nm.r; (focus repeat (first | apply LN.cons | exact LN.nil))) | (apply Il.r; (focus repeat (first | apply ILit.cons | exact ILit.nil))) | (apply Kf.mk; (focus kernel_rfl)) | (apply TkM.r; (focus (repeat (first | exact Take.here | apply Take.there)))) | (apply LkM.s; (focus first | assumption | rfl)) | (apply CA.draw; (focus rfl); (focus kernel_rfl); (focus kernel_rfl); (focus repeat' (first | apply ON.one | exact ON.done | exact ON.none | apply ON.alt)); (focus rfl)) | fail | (apply Cl.p (hreg); (focus repeat' (first | exact Lend.nil | apply Lend.keep | fail))))
            (apply Cl.use (hcon); (focus repeat' (first | exact Lend.nil | apply Lend.keep | fail)); (focus (repeat (first | exact Takes.nil | (apply Takes.cons; (focus (repeat (first | exact Take.here | apply Take.there))))))); (focus rfl))
            rintro _ _ ⟨rfl, w', rfl⟩
            repeat' (first | refine Sp.h ?_ | refine Lk.r rfl ?_ | refine Rf.mk rfl ?_ | (refine Bd.mk ?_ ?_ <;> intro _) | (apply Nm.r; (focus repeat (first | apply LN.cons | exact LN.nil))) | fail)
            · exact PA.lp (D.set i ⟨x.put, x.drop, w', (addF (fgK e.past x.marks) ⟨e.rep, e.num, e.time, uv⟩).2⟩, ⟨x.put, x.drop, w', (addF (fgK e.past x.marks) ⟨e.rep, e.num, e.time, uv⟩).2⟩, lg) ⟨by (repeat (first | exact trivial | refine ⟨rfl, ?_⟩)), by (repeat (first | exact Subl.nil | refine Subl.cons (by (repeat (first | exact Take.here | apply Take.there))) ?_))⟩ ⟨rfl, by rw [hcell]; rfl, .inl ⟨by rw [hcell]; assumption, rfl⟩⟩
            · exact PA.lp (D.set i ⟨x.put, x.drop, w', (addF (fgK e.past x.marks) ⟨e.rep, e.num, e.time, uv⟩).2⟩, ⟨x.put, x.drop, w', (addF (fgK e.past x.marks) ⟨e.rep, e.num, e.time, uv⟩).2⟩, true) ⟨by (repeat (first | exact trivial | refine ⟨rfl, ?_⟩)), by (repeat (first | exact Subl.nil | refine Subl.cons (by (repeat (first | exact Take.here | apply Take.there))) ?_))⟩ ⟨rfl, by rw [hcell]; rfl, .inr ⟨by rw [hcell]; assumption, rfl⟩⟩
            · rw [hbad _ _ hcell (by assumption) (by assumption)]
              exact ⟨_, _, .tup (.same (.same (.nil (by (repeat (first | exact Subl.nil | refine Subl.cons (by (repeat (first | exact Take.here | apply Take.there))) ?_)))))), .inr ⟨by assumption, rfl, rfl⟩⟩
      · rintro ⟨D', x', lg'⟩ ⟨hD', hx', hc⟩
        simp only at hD' hx' hc
        subst hD'
        simp only
        have htk : C.take (i + 1) = C.take i ++ [cellF e t (updF a.eff.updates i) g] := by rw [List.take_add_one, hq]; rfl
        have hdr : l.drop i = g :: l.drop (i + 1) := by
          have h9 := List.drop_eq_getElem_cons hin
          rw [(List.getElem?_eq_some_iff.1 hgi).2] at h9
          exact h9
        have hA : (D.set i x').map MgE.g = (C.take (i + 1)).map (·.2) ++ l.drop (i + 1) := by
          rw [List.map_set, g2, hx', hdr, List.set_append, if_neg (by rw [List.length_map, htl]; omega), List.length_map, htl, Nat.sub_self, List.set_cons_zero, htk]
          simp
        have hB : ∀ p ∈ C.take (i + 1), p.1 = 0 ∨ p.1 = 8 := fun p hp => by
          rw [htk] at hp
          rcases List.mem_append.1 hp with h9 | h9
          · exact g3 p h9
          · rw [List.mem_singleton.1 h9]
            exact hc.imp (·.1) (·.1)
        have hE : lg' = true ↔ ∃ p ∈ C.take (i + 1), p.1 = 8 := by
          rw [htk]
          rcases hc with ⟨c1, rfl⟩ | ⟨c1, rfl⟩
          · rw [g4]
            constructor
            · rintro ⟨p, hp, h8⟩
              exact ⟨p, by simp [hp], h8⟩
            · rintro ⟨p, hp, h8⟩
              rcases List.mem_append.1 hp with h9 | h9
              · exact ⟨p, h9, h8⟩
              · rw [List.mem_singleton.1 h9, c1] at h8; cases h8
          · exact ⟨fun _ => ⟨_, by simp, c1⟩, fun _ => rfl⟩
        (repeat' (first | (show CA _ _ (Code.region 28 _ _) _ _; apply Stopped.out) | refine Sp.h ?_ | fail)); any_goals apply Stopped.mk
        apply CA.bunPut (l := D) (g := mgeR) (i := i) (x := x')
        focus (repeat (first | exact Take.here | apply Take.there))
        focus (repeat (first | exact Take.here | apply Take.there))
        focus exact hDl
        repeat' (first | refine Sp.h ?_ | refine Lk.r rfl ?_ | refine Rf.mk rfl ?_ | (apply Ov.n; (focus first | omega | (simp <;> omega))) | fail)
        exact PA.lp (i + 1, D.set i x', lg') ⟨by (repeat (first | exact trivial | refine ⟨rfl, ?_⟩)), by (repeat (first | exact Subl.nil | refine Subl.cons (by (repeat (first | exact Take.here | apply Take.there))) ?_))⟩ ⟨⟨hin, hA, hB, hE⟩, by simp only; omega⟩
    · have hie : i = l.length := by omega
      subst hie
      have hCl : C.length = l.length := by rw [hC]; exact cellsF_len
      rw [← hCl, List.take_length] at g3 g4
      rw [← hCl, List.take_length, hCl, List.drop_length, List.append_nil] at g2
      cases lg with
      | true =>
        have hG : gatherF C = (8, []) := by rw [gather_end g3, if_pos (g4.1 rfl)]
        rw [hG]
        repeat' (first | refine Sp.h ?_ | refine Lk.r rfl ?_ | refine Rf.mk rfl ?_ | (apply Bd.f; (focus (first | assumption | omega | exact Bool.false_ne_true))) | (apply Nm.r; (focus repeat (first | apply LN.cons | exact LN.nil))) | fail)
        exact ⟨_, _, .tup (.same (.same (.nil (by (repeat (first | exact Subl.nil | refine Subl.cons (by (repeat (first | exact Take.here | apply Take.there))) ?_)))))), .inr ⟨by decide, rfl, rfl⟩⟩
      | false =>
        have hG : gatherF C = (0, C.map (·.2)) := by rw [gather_end g3, if_neg (fun h9 => by have := g4.2 h9; cases this)]
        rw [hG]
        repeat' (first | refine Sp.h ?_ | refine Lk.r rfl ?_ | refine Rf.mk rfl ?_ | (apply Bd.f; (focus (first | assumption | omega | exact Bool.false_ne_true))) | (apply Nm.r; (focus repeat (first | apply LN.cons | exact LN.nil))) | fail)
        exact ⟨_, _, .tup (.same (.same (.nil (by (repeat (first | exact Subl.nil | refine Subl.cons (by (repeat (first | exact Take.here | apply Take.there))) ?_)))))), .inl ⟨v, D, rfl, rfl, rfl, g2⟩⟩
end Go.Proofs.YtpgpdmmobblffaaGreat
namespace Go.Proofs.YtpgpdmmobblffaaGreat
open Go Go.CF
set_option maxRecDepth 20000
noncomputable instance : DecidableEq MgS := fun _ _ => Classical.propDecidable _
noncomputable instance : DecidableEq MkS := fun _ _ => Classical.propDecidable _
def FewK (l : List MgS) : Prop := (∀ g ∈ l, g.marks.length ≤ 30) ∧ l.length ≤ 20
noncomputable instance (l : List MgS) : Decidable (FewK l) := Classical.propDecidable _
theorem few34_p (l : List MgS) : CallP Tryz.prog 10 [mgs l] (bl (decide (FewK l))) := by
  refine CallA.of pg ord10 Tryz.func10 rfl Tryz.ntmps10 Tryz.results10 rfl fun h0 G0 O0 => ?_
  repeat' (first | refine Sp.h ?_ | refine Lk.r rfl ?_ | refine Rf.mk rfl ?_ | fail)
  refine CA.loop (fun i : Nat => ⟨[(0, mgs l), (3, it i)], []⟩) (fun i => i ≤ l.length ∧ ∀ g ∈ l.take i, g.marks.length ≤ 30) (fun i => l.length - i) 0 ⟨by (repeat (first | exact trivial | refine ⟨rfl, ?_⟩)), by (repeat (first | exact Subl.nil | refine Subl.cons (by (repeat (first | exact Take.here | apply Take.there))) ?_))⟩ ⟨Nat.zero_le _, by simp⟩ ?_
  rintro i ⟨hi, ha⟩
  by_cases hin : i < l.length
  · obtain ⟨g, hg⟩ := get_of hin
    by_cases h30 : 30 < g.marks.length
    · repeat' (first | refine Sp.h ?_ | refine Lk.r rfl ?_ | refine Rf.mk rfl ?_ | (apply Bd.t; (focus (first | assumption | omega | rfl))) | (refine Im.mk ?_; intro _) | (apply Ix.q; (focus exact rfl); (focus assumption)) | (apply Nm.r; (focus repeat (first | apply LN.cons | exact LN.nil))) | fail)
      refine Fin.p rfl (vb (decide_eq_false (fun h => ?_)).symm)
      have := h.1 g (List.mem_of_getElem? hg)
      omega
    · repeat' (first | refine Sp.h ?_ | refine Lk.r rfl ?_ | refine Rf.mk rfl ?_ | (apply Bd.t; (focus (first | assumption | omega | rfl))) | (apply Bd.f; (focus (first | assumption | omega | exact Bool.false_ne_true))) | (refine Im.mk ?_; intro _) | (apply Ix.q; (focus exact rfl); (focus assumption)) | (apply Ov.n; (focus first | omega | (simp <;> omega))) | fail)
      exact PA.lp (i + 1) ⟨by (repeat (first | exact trivial | refine ⟨rfl, ?_⟩)), by (repeat (first | exact Subl.nil | refine Subl.cons (by (repeat (first | exact Take.here | apply Take.there))) ?_))⟩ ⟨⟨hin, all_succ hg ha (by omega)⟩, by omega⟩
  · have hie : i = l.length := by omega
    subst hie
    rw [List.take_length] at ha
    repeat' (first | refine Sp.h ?_ | refine Lk.r rfl ?_ | refine Rf.mk rfl ?_ | (apply Bd.f; (focus (first | assumption | omega | exact Bool.false_ne_true))) | (refine Im.mk ?_; intro _) | (apply Nm.r; (focus repeat (first | apply LN.cons | exact LN.nil))) | fail)
    refine Fin.p rfl (vb (decide_eq_decide.2 ⟨fun h => ⟨ha, by omega⟩, fun h => by have := h.2; omega⟩))
theorem mks_ext {a b : MkS} (h1 : a.rep = b.rep) (h2 : a.num = b.num) (h3 : a.time = b.time) (h4 : a.val = b.val) : a = b := by
  cases a; cases b; simp_all
theorem mgs_ext {a b : MgS} (h1 : a.put = b.put) (h2 : a.drop = b.drop) (h3 : a.marks = b.marks) : a = b := by
  cases a; cases b; simp_all
set_option maxHeartbeats 2000000 in
theorem same34_p (a b : List MgS) : CallP Tryz.prog 13 [mgs a, mgs b] (bl (decide (a = b))) := by
  refine CallA.of pg ord13 Tryz.func13 rfl Tryz.ntmps13 Tryz.results13 rfl fun h0 G0 O0 => ?_
  by_cases hlen : a.length = b.length
  rotate_left
  · repeat' (first | refine Sp.h ?_ | refine Lk.r rfl ?_ | refine Rf.mk rfl ?_ | (apply Bd.f; (focus (first | assumption | omega | exact Bool.false_ne_true))) | (refine Im.mk ?_; intro _) | (apply Nm.r; (focus repeat (first | apply LN.cons | exact LN.nil))) | fail)
    exact Fin.p rfl (vb (decide_eq_false (fun e => hlen (by rw [e]))).symm)
  repeat' (first | refine Sp.h ?_ | refine Lk.r rfl ?_ | refine Rf.mk rfl ?_ | (apply Bd.t; (focus (first | assumption | omega | rfl))) | (refine Im.mk ?_; intro _) | fail)
  refine CA.loop (fun i : Nat => ⟨[(0, mgs a), (1, mgs b), (5, it i)], []⟩) (fun i => i ≤ a.length ∧ a.take i = b.take i) (fun i => a.length - i) 0 ⟨by (repeat (first | exact trivial | refine ⟨rfl, ?_⟩)), by (repeat (first | exact Subl.nil | refine Subl.cons (by (repeat (first | exact Take.here | apply Take.there))) ?_))⟩ ⟨Nat.zero_le _, by simp⟩ ?_
  rintro i ⟨hi, heq⟩
  by_cases hin : i < a.length
  · obtain ⟨x, hx⟩ := get_of hin
    obtain ⟨y, hy⟩ := get_of (l := b) (i := i) (by omega)
    by_cases hp : x.put = y.put
    rotate_left
    · repeat' (first | refine Sp.h ?_ | refine Lk.r rfl ?_ | refine Rf.mk rfl ?_ | (apply Bd.t; (focus (first | assumption | omega | rfl))) | (apply Bd.f; (focus (first | assumption | omega | exact Bool.false_ne_true))) | refine OpK.r rfl ?_ | (refine Im.mk ?_; intro _) | (apply Ix.q; (focus exact rfl); (focus assumption)) | (apply Nm.r; (focus repeat (first | apply LN.cons | exact LN.nil))) | (apply CA.draw; (focus rfl); (focus kernel_rfl); (focus kernel_rfl); (focus repeat' (first | apply ON.one | exact ON.done | exact ON.none | apply ON.alt)); (focus rfl)) | fail)
      all_goals exact Fin.p rfl (vb (decide_eq_false (fun e => hp (by subst e; rw [hx] at hy; cases hy; rfl))).symm)
    by_cases hd : x.drop = y.drop
    rotate_left
    · repeat' (first | refine Sp.h ?_ | refine Lk.r rfl ?_ | refine Rf.mk rfl ?_ | (apply Bd.t; (focus (first | assumption | omega | rfl))) | (apply Bd.f; (focus (first | assumption | omega | exact Bool.false_ne_true))) | refine OpK.r rfl ?_ | (refine Im.mk ?_; intro _) | (apply Ix.q; (focus exact rfl); (focus assumption)) | (apply Nm.r; (focus repeat (first | apply LN.cons | exact LN.nil))) | (apply CA.draw; (focus rfl); (focus kernel_rfl); (focus kernel_rfl); (focus repeat' (first | apply ON.one | exact ON.done | exact ON.none | apply ON.alt)); (focus rfl)) | fail)
      all_goals exact Fin.p rfl (vb (decide_eq_false (fun e => hd (by subst e; rw [hx] at hy; cases hy; rfl))).symm)
    by_cases hm : x.marks.length = y.marks.length
    rotate_left
    · repeat' (first | refine Sp.h ?_ | refine Lk.r rfl ?_ | refine Rf.mk rfl ?_ | (apply Bd.t; (focus (first | assumption | omega | rfl))) | (apply Bd.f; (focus (first | assumption | omega | exact Bool.false_ne_true))) | refine OpK.r rfl ?_ | (refine Im.mk ?_; intro _) | (apply Ix.q; (focus exact rfl); (focus assumption)) | (apply Nm.r; (focus repeat (first | apply LN.cons | exact LN.nil))) | (apply CA.draw; (focus rfl); (focus kernel_rfl); (focus kernel_rfl); (focus repeat' (first | apply ON.one | exact ON.done | exact ON.none | apply ON.alt)); (focus rfl)) | fail)
      all_goals exact Fin.p rfl (vb (decide_eq_false (fun e => hm (by subst e; rw [hx] at hy; cases hy; rfl))).symm)
    repeat' (first | refine Sp.h ?_ | refine Lk.r rfl ?_ | refine Rf.mk rfl ?_ | (apply Bd.t; (focus (first | assumption | omega | rfl))) | refine OpK.r rfl ?_ | (refine Im.mk ?_; intro _) | (apply Ix.q; (focus exact rfl); (focus assumption)) | (apply CA.draw; (focus rfl); (focus kernel_rfl); (focus kernel_rfl); (focus repeat' (first | apply ON.one | exact ON.done | exact ON.none | apply ON.alt)); (focus rfl)) | fail)
    refine CA.loop (fun k : Nat => ⟨[(0, mgs a), (1, mgs b), (5, it i), (6, it k)], []⟩) (fun k => k ≤ x.marks.length ∧ x.marks.take k = y.marks.take k) (fun k => x.marks.length - k) 0 ⟨by (repeat (first | exact trivial | refine ⟨rfl, ?_⟩)), by (repeat (first | exact Subl.nil | refine Subl.cons (by (repeat (first | exact Take.here | apply Take.there))) ?_))⟩ ⟨Nat.zero_le _, by simp⟩ ?_
    rintro k ⟨hk, heq2⟩
    by_cases hkn : k < x.marks.length
    · obtain ⟨u, hu⟩ := get_of hkn
      obtain ⟨w, hw⟩ := get_of (l := y.marks) (i := k) (by omega)
      by_cases huw : u = w
      · have hv : [u.rep, u.num, u.time, u.val] = [w.rep, w.num, w.time, w.val] := by rw [huw]
        repeat' (first | refine Sp.h ?_ | refine Lk.r rfl ?_ | refine Rf.mk rfl ?_ | (apply Bd.t; (focus (first | assumption | omega | rfl))) | refine OpK.r rfl ?_ | (refine Im.mk ?_; intro _) | (apply Ix.q; (focus exact rfl); (focus assumption)) | refine Ch.l ⟨rfl, rfl⟩ ?_ | (apply Il.r; (focus repeat (first | apply ILit.cons | exact ILit.nil))) | (apply Kf.mk; (focus kernel_rfl)) | (apply CA.draw; (focus rfl); (focus kernel_rfl); (focus kernel_rfl); (focus repeat' (first | apply ON.one | exact ON.done | exact ON.none | apply ON.alt)); (focus rfl)) | (apply Ov.n; (focus first | omega | (simp <;> omega))) | fail)
        refine PA.lp (k + 1) ⟨by (repeat (first | exact trivial | refine ⟨rfl, ?_⟩)), by (repeat (first | exact Subl.nil | refine Subl.cons (by (repeat (first | exact Take.here | apply Take.there))) ?_))⟩ ⟨⟨hkn, ?_⟩, by omega⟩
        rw [List.take_add_one, List.take_add_one, hu, hw, heq2, huw]
      · have hv : ¬ [u.rep, u.num, u.time, u.val] = [w.rep, w.num, w.time, w.val] := fun h9 => huw (by simp only [List.cons.injEq, and_true] at h9; exact mks_ext h9.1 h9.2.1 h9.2.2.1 h9.2.2.2)
        repeat' (first | refine Sp.h ?_ | refine Lk.r rfl ?_ | refine Rf.mk rfl ?_ | (apply Bd.t; (focus (first | assumption | omega | rfl))) | (apply Bd.f; (focus (first | assumption | omega | exact Bool.false_ne_true))) | refine OpK.r rfl ?_ | (refine Im.mk ?_; intro _) | (apply Ix.q; (focus exact rfl); (focus assumption)) | refine Ch.l ⟨rfl, rfl⟩ ?_ | (apply Nm.r; (focus repeat (first | apply LN.cons | exact LN.nil))) | (apply Il.r; (focus repeat (first | apply ILit.cons | exact ILit.nil))) | (apply Kf.mk; (focus kernel_rfl)) | (apply CA.draw; (focus rfl); (focus kernel_rfl); (focus kernel_rfl); (focus repeat' (first | apply ON.one | exact ON.done | exact ON.none | apply ON.alt)); (focus rfl)) | fail)
        refine Fin.p rfl (vb (decide_eq_false (fun e9 => huw ?_)).symm)
        subst e9
        rw [hx] at hy
        cases hy
        rw [hu] at hw
        cases hw
        rfl
    · have hke : k = x.marks.length := by omega
      subst hke
      repeat' (first | refine Sp.h ?_ | refine Lk.r rfl ?_ | refine Rf.mk rfl ?_ | (apply Bd.f; (focus (first | assumption | omega | exact Bool.false_ne_true))) | (refine Im.mk ?_; intro _) | (apply Ix.q; (focus exact rfl); (focus assumption)) | (apply Ov.n; (focus first | omega | (simp <;> omega))) | fail)
      refine PA.lp (i + 1) ⟨by (repeat (first | exact trivial | refine ⟨rfl, ?_⟩)), by (repeat (first | exact Subl.nil | refine Subl.cons (by (repeat (first | exact Take.here | apply Take.there))) ?_))⟩ ⟨⟨hin, ?_⟩, by omega⟩
      rw [List.take_length, hm, List.take_length] at heq2
      rw [List.take_add_one, List.take_add_one, hx, hy, heq, mgs_ext hp hd heq2]
  · have hie : i = a.length := by omega
    subst hie
    repeat' (first | refine Sp.h ?_ | refine Lk.r rfl ?_ | refine Rf.mk rfl ?_ | (apply Bd.f; (focus (first | assumption | omega | exact Bool.false_ne_true))) | (refine Im.mk ?_; intro _) | (apply Nm.r; (focus repeat (first | apply LN.cons | exact LN.nil))) | fail)
    refine Fin.p rfl (vb (decide_eq_true ?_).symm)
    rw [List.take_length] at heq
    rw [heq, List.take_of_length_le (by omega)]
theorem listsQ_p (a b : List (List Int)) : CallP Tryz.prog 22 [clks a, clks b] (.val (.bool (decide (a = b)))) := by
  refine CallA.of pg ord22 Tryz.func22 rfl Tryz.ntmps22 Tryz.results22 rfl fun h0 G0 O0 => ?_
  repeat' (first | refine Sp.h ?_ | refine Lk.r rfl ?_ | refine Rf.mk rfl ?_ | (refine Bd.mk ?_ ?_ <;> intro _) | (refine Im.mk ?_; intro _) | (apply Nm.r; (focus repeat (first | apply LN.cons | exact LN.nil))) | fail)
  · refine CA.loop (fun i : Nat => ⟨[(0, clks a), (1, clks b), (5, .val (.int .i64 i))], []⟩) (fun i => i ≤ a.length ∧ a.take i = b.take i) (fun i => a.length - i) 0 ⟨by (repeat (first | exact trivial | refine ⟨rfl, ?_⟩)), by (repeat (first | exact Subl.nil | refine Subl.cons (by (repeat (first | exact Take.here | apply Take.there))) ?_))⟩ ⟨Nat.zero_le _, by simp⟩ ?_
    rintro i ⟨hi, heq⟩
    by_cases hin : i < a.length
    · obtain ⟨x, hx⟩ := get_of hin
      obtain ⟨y, hy⟩ := get_of (l := b) (i := i) (by omega)
      repeat' (first | refine Sp.h ?_ | refine Lk.r rfl ?_ | refine Rf.mk rfl ?_ | (apply Bd.t; (focus (first | assumption | omega | rfl))) | (refine Bd.mk ?_ ?_ <;> intro _) | refine OpK.r rfl ?_ | (refine Im.mk ?_; intro _) | (apply Ix.q; (focus exact rfl); (focus assumption)) | (apply Nm.r; (focus repeat (first | apply LN.cons | exact LN.nil))) | (apply CA.draw; (focus rfl); (focus kernel_rfl); (focus kernel_rfl); (focus repeat' (first | apply ON.one | exact ON.done | exact ON.none | apply ON.alt)); (focus rfl)) | (apply Ov.n; (focus first | omega | (simp <;> omega))) | fail | (apply Cl.p (intsR_p _ _); (focus repeat' (first | exact Lend.nil | apply Lend.keep | fail))))
      · rename_i hxy
        refine PA.lp (i + 1) ⟨by (repeat (first | exact trivial | refine ⟨rfl, ?_⟩)), by (repeat (first | exact Subl.nil | refine Subl.cons (by (repeat (first | exact Take.here | apply Take.there))) ?_))⟩ ⟨⟨hin, ?_⟩, by omega⟩
        rw [List.take_add_one, List.take_add_one, hx, hy, heq, show x = y from hxy]
      · rename_i hxy
        refine Fin.p rfl (vb (decide_eq_false (fun e => hxy ?_)).symm)
        subst e; rw [hx] at hy; cases hy; rfl
    · have : i = a.length := by omega
      subst this
      repeat' (first | refine Sp.h ?_ | refine Lk.r rfl ?_ | refine Rf.mk rfl ?_ | (apply Bd.f; (focus (first | assumption | omega | exact Bool.false_ne_true))) | (refine Im.mk ?_; intro _) | (apply Nm.r; (focus repeat (first | apply LN.cons | exact LN.nil))) | fail)
      refine Fin.p rfl (vb (decide_eq_true ?_).symm)
      rw [List.take_length] at heq
      rw [heq, List.take_of_length_le (by omega)]
  · rename_i h
    exact Fin.p rfl (vb (decide_eq_false (fun e => h (by rw [e]))).symm)
end Go.Proofs.YtpgpdmmobblffaaGreat
namespace Go.CF
open Go
/-- What is one thing is the other one, too. -/
structure ALe (a b : AV) : Prop where
  le : ∀ {h : Heap} {G : Nat → Prop} {v : Value}, a.R h G v → b.R h G v
theorem ALe.refl (a : AV) : ALe a a := ⟨fun h => h⟩
theorem ALe.nil {α : Type} {sz : Nat} {f : α → List AV} : ALe (.val (.slice none 0 0)) (.sl sz [] f) := ⟨fun h => by
  have h : _ = _ := h
  subst h
  exact ⟨by simp, .inl ⟨rfl, none, 0, rfl⟩⟩⟩
inductive RLe : List AV → List AV → Prop where
  | nil : RLe [] []
  | cons {a b : AV} {l m : List AV} : ALe a b → RLe l m → RLe (a :: l) (b :: m)
theorem RLe.rep {h : Heap} {G : Nat → Prop} {l m : List AV} (x : RLe l m) : ∀ {vs : List Value}, RepT h G vs l → RepT h G vs m := by
  induction x with
  | nil => exact fun hr => hr
  | cons ha _ ih =>
    intro vs hr
    match vs, hr with
    | v :: vs, ⟨h1, h2⟩ => exact ⟨ha.le h1, ih h2⟩
theorem ALe.sl {α β : Type} {sz : Nat} {l : List α} {f : α → List AV} {ys : List β} {g : β → List AV} (hl : l.length = ys.length) (hr : ∀ (i : Nat) x y, l[i]? = some x → ys[i]? = some y → RLe (f x) (g y)) : ALe (.sl sz l f) (.sl sz ys g) := ⟨fun {h G v} hv => by
  obtain ⟨h1, ⟨h2, p, cap, h3⟩ | ⟨b, o, cap, rows, h2, h3, h4, h5, h6, h7, h8⟩⟩ := hv
  · subst h2
    exact ⟨by rw [← hl]; exact h1, .inl ⟨List.eq_nil_of_length_eq_zero (by rw [← hl]; rfl), p, cap, h3⟩⟩
  · refine ⟨by rw [← hl]; exact h1, .inr ⟨b, o, cap, rows, by rw [← hl]; exact h2, by rw [← hl]; exact h3, by rw [← hl]; exact h4, h5, h6, h7, ⟨by rw [h8.len, hl], fun i r y g1 g2 => ?_, h8.sz⟩⟩⟩
    have hi := (List.getElem?_eq_some_iff.1 g2).1
    have hx : l[i]? = some (l[i]'(by omega)) := List.getElem?_eq_getElem _
    have g3 := h8.row i r _ g1 hx
    exact ⟨(hr i _ y hx g2).rep g3.t, g3.one⟩⟩
theorem CallA.conv {P : Program} {f : FuncId} {asx : List AV} {own : List Res} {a b : AV} (hab : ALe a b) (h : CallA P f asx own fun q o => q = a ∧ o = []) : CallA P f asx own fun q o => q = b ∧ o = [] :=
  ⟨fun hh G Os vs h1 h2 => (h.run hh G Os vs h1 h2).mono fun v' h' ⟨r, o, G', Os', ⟨e1, e2⟩, g1, g2⟩ => by
    subst e1; subst e2
    exact ⟨_, _, _, _, ⟨rfl, rfl⟩, hab.le g1, g2⟩⟩
section
variable {k : List KI} {e : EA} {o : List Res}
end
end Go.CF
namespace Go.CF
open Go
/-- Values, frozen: lists of one's own at any depth. -/
inductive FX : List Res → List AV → List AV → List Res → Prop where
  | nil {o : List Res} : FX o [] [] o
  | le {o own : List Res} {a b : AV} {l l' : List AV} : ALe a b → FX o l l' own → FX o (a :: l) (b :: l') own
  | agg {o o1 own : List Res} {cs cs' l l' : List AV} : FX o cs cs' o1 → FX o1 l l' own → FX o (.agg cs :: l) (.agg cs' :: l') own
  | tup {o o1 own : List Res} {cs cs' l l' : List AV} : FX o cs cs' o1 → FX o1 l l' own → FX o (.tup cs :: l) (.tup cs' :: l') own
  | unb {o rest own rs : List Res} {l l' : List AV} : Take o (bunR rs) rest → FX (rs ++ rest) l l' own → FX o l l' own
  | sl {o rest o1 own : List Res} {l l' : List AV} {α β : Type} {v : Value} {T sz : Nat} {xs : List α} {f : α → List AV} {ys : List β} {g : β → List AV} :
      Take o (arrR v T sz xs f) rest → xs.length ≤ 9223372036854775807 → FX rest (xs.map fun x => .agg (f x)) (ys.map fun y => .agg (g y)) o1 → FX o1 l l' own → FX o (.ow v :: l) (.sl sz ys g :: l') own
theorem FX.len {o own : List Res} {l l' : List AV} (x : FX o l l' own) : l.length = l'.length := by
  induction x with
  | nil => rfl
  | le _ _ ih => simp [ih]
  | agg _ _ _ ih => simp [ih]
  | tup _ _ _ ih => simp [ih]
  | unb _ _ ih => exact ih
  | sl _ _ _ _ _ ih => simp [ih]
theorem RepLL.aggs {h : Heap} {G : Nat → Prop} {α : Type} {f : α → List AV} : ∀ {rows : List (List Value)} {l : List α}, RepLL h G rows (l.map f) → RepT h G (rows.map fun r => .agg r.toArray) (l.map fun x => .agg (f x))
  | [], [], _ => trivial
  | _ :: _, _ :: _, ⟨h1, h2⟩ => ⟨⟨_, rfl, h1⟩, RepLL.aggs h2⟩
  | [], _ :: _, h => h.elim
  | _ :: _, [], h => h.elim
theorem RepLL.unaggs {h : Heap} {G : Nat → Prop} {α : Type} {f : α → List AV} : ∀ {rows : List (List Value)} {l : List α}, RepT h G (rows.map fun r => .agg r.toArray) (l.map fun x => .agg (f x)) → RepLL h G rows (l.map f)
  | [], [], _ => trivial
  | v :: vs, x :: l, ⟨⟨ws, e, h1⟩, h2⟩ => by
    have e' : v = ws := by
      have := congrArg (fun u => match u with | Value.agg a => a.toList | _ => []) e
      simpa using this
    subst e'
    exact ⟨h1, RepLL.unaggs h2⟩
  | [], _ :: _, h => h.elim
  | _ :: _, [], h => h.elim
theorem FX.rep {h0 : Heap} {G0 O0 : Nat → Prop} {h : Heap} {o own : List Res} {l l' : List AV} (x : FX o l l' own) : ∀ {G : Nat → Prop} {Os : List (Nat → Prop)} {vs : List Value}, HpOK h0 G0 O0 o h G Os → RepT h G vs l → ∃ G' Os', HpOK h0 G0 O0 own h G' Os' ∧ RepT h G' vs l' ∧ ∀ b, G b → G' b := by
  induction x with
  | nil => exact fun {G Os vs} c hr => ⟨G, Os, c, hr, fun _ h => h⟩
  | le ha _ ih =>
    intro G Os vs c hr
    match vs, hr with
    | v :: vs, ⟨r1, r2⟩ =>
      obtain ⟨G', Os', h1, h2, h3⟩ := ih c r2
      exact ⟨G', Os', h1, ⟨AV.mono _ h3 (ha.le r1), h2⟩, h3⟩
  | agg _ _ ih1 ih =>
    intro G Os vs c hr
    match vs, hr with
    | v :: vs, ⟨⟨ws, r1, r3⟩, r2⟩ =>
      obtain ⟨G1, Os1, h1, h2, h3⟩ := ih1 c r3.t
      obtain ⟨G2, Os2, h4, h5, h6⟩ := ih h1 (r2.mono h3)
      exact ⟨G2, Os2, h4, ⟨⟨ws, r1, h2.mono h6, r3.one⟩, h5⟩, fun b hb => h6 b (h3 b hb)⟩
  | tup _ _ ih1 ih =>
    intro G Os vs c hr
    match vs, hr with
    | v :: vs, ⟨⟨ws, r1, r3⟩, r2⟩ =>
      obtain ⟨G1, Os1, h1, h2, h3⟩ := ih1 c r3
      obtain ⟨G2, Os2, h4, h5, h6⟩ := ih h1 (r2.mono h3)
      exact ⟨G2, Os2, h4, ⟨⟨ws, r1, h2.mono h6⟩, h5⟩, fun b hb => h6 b (h3 b hb)⟩
  | unb tk _ ih =>
    intro G Os vs c hr
    obtain ⟨O, os', c2⟩ := c.take tk
    obtain ⟨A, _, g2⟩ := c2.unbun
    exact ih g2 hr
  | sl tk hl hf _ ih1 ih =>
    intro G Os vs c hr
    match vs, hr with
    | v :: vs, ⟨⟨r1, _⟩, r2⟩ =>
      subst r1
      obtain ⟨O, os', c2⟩ := c.take tk
      have hrr := c2.own.1
      have hlen : _ = _ := hf.len
      simp only [List.length_map] at hlen
      obtain ⟨g1, ⟨g2, p, cap, g3⟩ | ⟨b, of, cap, rows, g2, g3, g4, g5, g6, g7, g8⟩⟩ := sl_of_own hrr hl
      · obtain ⟨G1, Os1, h1, _, h3⟩ := ih1 (vs := []) c2.freeze (by rw [g2]; trivial)
        obtain ⟨G2, Os2, h4, h5, h6⟩ := ih h1 (r2.mono fun b hb => h3 b (.inl hb))
        refine ⟨G2, Os2, h4, ⟨⟨by omega, .inl ⟨List.eq_nil_of_length_eq_zero (by rw [← hlen, g2]; rfl), p, cap, g3⟩⟩, h5⟩, fun b hb => h6 b (h3 b (.inl hb))⟩
      · obtain ⟨G1, Os1, h1, h2, h3⟩ := ih1 c2.freeze (RepLL.of g8).aggs
        obtain ⟨G2, Os2, h4, h5, h6⟩ := ih h1 (r2.mono fun b hb => h3 b (.inl hb))
        refine ⟨G2, Os2, h4, ⟨⟨by omega, .inr ⟨b, of, cap, rows, by rw [← hlen]; exact g2, by omega, by omega, h6 _ (h3 _ g5), g6, g7, (RepLL.to (RepLL.unaggs h2) g8.sz).mono h6⟩⟩, h5⟩, fun b hb => h6 b (h3 b (.inl hb))⟩
/-- A result that nobody is to change, whatever it is made of. -/
theorem CallA.fx {P : Program} {f : FuncId} {asx : List AV} {own : List Res} {K : AV → List Res → Prop} {a : AV} (h : CallA P f asx own K) (hK : ∀ r o, K r o → FX o [r] [a] []) : CallA P f asx own fun q o => q = a ∧ o = [] :=
  ⟨fun hh G Os vs h1 h2 => (h.run hh G Os vs h1 h2).mono fun v' h' ⟨r, o, G', Os', hk, g1, g2⟩ => by
    obtain ⟨G2, Os2, k1, k2, k3⟩ := (hK r o hk).rep g2 (vs := [v']) ⟨g1, trivial⟩
    exact ⟨a, [], G2, Os2, ⟨rfl, rfl⟩, k2.1, k1⟩⟩
theorem FX.refl {o : List Res} : ∀ l : List AV, FX o l l o
  | [] => .nil
  | a :: l => .le (ALe.refl a) (FX.refl l)
theorem FX.rows {α β : Type} {r : α → Res} {f : α → List AV} {g : β → List AV} {φ : α → β} {o : List Res} : ∀ L : List α, (∀ x ∈ L, ∀ o', FX (r x :: o') (f x) (g (φ x)) o') → FX (L.map r ++ o) (L.map fun x => .agg (f x)) ((L.map φ).map fun y => .agg (g y)) o
  | [], _ => .nil
  | x :: L, hf => .agg (hf x (by simp) _) (FX.rows L fun y hy => hf y (by simp [hy]))
/-- A value that nobody is to change, whatever it is made of. -/
theorem CA.freezeX {P : Program} {tt : Nat → Option TI} {en : Nat → Bool} {ok : PgOK P tt en} {T0 : Nat → Ord × (Nat → Cls)} {m0 : Nat} {rs : Array ResultVar} {K : AV → List Res → Prop} {h0 : Heap} {G0 O0 : Nat → Prop} {k : List KI} {e : EA} {o : List Res} {y : Code} (t : Tmp) {a b : AV} {rest : List Res} (ht : lookA e t = some a) (x : FX o [a] [b] rest)
    (h : CA ⟨P, tt, en, ok, T0, m0, rs, K, h0, G0, O0, ⟨none⟩⟩ k y ((t, b) :: e) rest) : CA ⟨P, tt, en, ok, T0, m0, rs, K, h0, G0, O0, ⟨none⟩⟩ k y e o := by
  refine ⟨fun env hh G Os cn => ?_⟩
  obtain ⟨w', e1, e2⟩ := cn.env t _ ht
  obtain ⟨G', Os3, k1, k2, k3⟩ := x.rep cn.hp (vs := [w']) ⟨e2, trivial⟩
  have c4 : Con ⟨P, tt, en, ok, T0, m0, rs, K, h0, G0, O0, ⟨none⟩⟩ ⟨e, rest⟩ env hh G' Os3 := ⟨k1, fun q c hq => by
    obtain ⟨u, q1, q2⟩ := cn.env q c hq
    exact ⟨u, q1, AV.mono _ k3 q2⟩, FpOK.none rfl⟩
  exact h.h env hh G' Os3 (con_re c4 t (fun w hw => by rw [hw] at e1; cases e1; exact k2.1) ht)
theorem Cl.fx {Γ : Cx} {c : Cls} {f : FuncId} {asx : List AV} (as' : List AV) {o own : List Res} {M : AV → List Res → Prop} (x : FX o asx as' own) (hc : Cl Γ c f as' own M) : Cl Γ c f asx o M := by
  refine ⟨fun {h0 G0 O0 h G Os vs} hp hr => ?_⟩
  obtain ⟨G1, Os1, k1, k2, k3⟩ := x.rep hp hr
  refine (hc.ok k1 k2).mono fun v h' ⟨g1, r, o', G', Os', g2, g3, g4, g5, g6⟩ => ?_
  exact ⟨g1, r, o', G', Os', g2, g3, g4, g5.mono k3, fun b hb => g6 b (k3 b hb)⟩
end Go.CF
namespace Go.Proofs.YtpgpdmmobblffaaGreat
open Go Go.CF
set_option maxRecDepth 20000
def mg0 : MgS := ⟨false, false, []⟩
theorem new_p (m : ModS) (hm : LayOK m.sorts m.tables) : CallP Tryz.prog 18 [mdl m] (mgs (List.replicate (mrgF m).length mg0)) := by
  have hc := cells_p m hm
  have hle := mrgF_le hm
  refine CallA.conv (a := .sl 3 (List.replicate (mrgF m).length ()) fun _ => [bl false, bl false, .val (.slice none 0 0)]) (ALe.sl (by simp) fun i x y _ hy => ?_) (CallA.fz (T := 44) (by simp; omega) ?_)
  · have : y = mg0 := (List.mem_replicate.1 (List.mem_of_getElem? hy)).2
    subst this
    exact .cons (ALe.refl _) (.cons (ALe.refl _) (.cons ALe.nil .nil))
  · refine CallA.of pg ord18 Tryz.func18 rfl Tryz.ntmps18 Tryz.results18 rfl fun h0 G0 O0 => ?_
    repeat' (first | refine Sp.h ?_ | refine Lk.r rfl ?_ | refine Rf.mk rfl ?_ | (refine Im.mk ?_; intro _) | (refine All.mk ?_; intro _) | (apply TkB.r; (focus (repeat (first | exact Take.here | apply Take.there)))) | refine Ch.l ⟨rfl, rfl⟩ ?_ | (apply Nm.r; (focus repeat (first | apply LN.cons | exact LN.nil))) | refine Rf.mk ⟨rfl, rfl, rfl⟩ ?_ | (apply Jx.r; (focus exact rfl); (focus first | omega | (simp; done) | (simp; omega))) | fail | (apply Cl.p (hc); (focus repeat' (first | exact Lend.nil | apply Lend.keep | fail))))
    refine CF.MkS.r (fun _ : Unit => [bl false, bl false, .val (.slice none 0 0)]) () rfl ?_
    repeat' (first | refine Sp.h ?_ | refine Lk.r rfl ?_ | (refine All.mk ?_; intro _) | (apply Nm.r; (focus repeat (first | apply LN.cons | exact LN.nil))) | fail)
    exact ⟨_, _, .one (.same (.nil (by (repeat (first | exact Subl.nil | refine Subl.cons (by (repeat (first | exact Take.here | apply Take.there))) ?_))))), _, rfl, rfl⟩
/-- The model of two sets. -/
def setsM : ModS := ⟨[], [⟨⟨#[97]⟩, 2, [], 0, 1, 0⟩, ⟨⟨#[114]⟩, 3, [], 0, 1, 1⟩], [], [], [⟨⟨#[111]⟩, false, []⟩, ⟨⟨#[112]⟩, false, []⟩], [⟨0, [], ⟨[], [], [(0, 0, 0), (0, 1, 0)]⟩⟩, ⟨1, [], ⟨[], [], [(1, 0, 0), (1, 1, 0)]⟩⟩], []⟩
abbrev nl0 : AV := .val (.slice none 0 0)
theorem sets_a : CallA Tryz.prog 37 [] [] fun r own => ∃ vt vo va vu vw, r = .agg [nl0, .ow vt, nl0, nl0, .ow vo, .ow va, nl0] ∧ own = [
    arrR va 59 5 [[it 0, nl0, nl0, nl0, .ow vu], [it 1, nl0, nl0, nl0, .ow vw]] id,
    arrR vw 61 3 [[it 1, it 0, it 0], [it 1, it 1, it 0]] id,
    arrR vu 61 3 [[it 0, it 0, it 0], [it 0, it 1, it 0]] id,
    arrR vo 144 3 [[sv ⟨#[111]⟩, bl false, nl0], [sv ⟨#[112]⟩, bl false, nl0]] id,
    arrR vt 84 6 [[sv ⟨#[97]⟩, it 2, nl0, it 0, it 1, it 0], [sv ⟨#[114]⟩, it 3, nl0, it 0, it 1, it 1]] id] := by
  refine CallA.of pg ord37 Tryz.func37 rfl Tryz.ntmps37 Tryz.results37 rfl fun h0 G0 O0 => ?_
  repeat' (first | refine Sp.h ?_ | refine Lk.r rfl ?_ | refine Rf.mk rfl ?_ | (refine All.mk ?_; intro _) | (apply TkB.r; (focus (repeat (first | exact Take.here | apply Take.there)))) | (apply SetAsk.r; (focus (repeat (first | exact SetAs.z | (apply SetAs.c; (focus (repeat (first | assumption | exact SetA.z | apply SetA.s)))))))) | (apply Fk.r; (focus (repeat (first | exact FillA.nil | (apply FillA.agg; (focus rfl); (focus rfl); (focus (repeat (first | exact SetAs.z | (apply SetAs.c; (focus (repeat (first | assumption | exact SetA.z | apply SetA.s)))))))) | (apply FillA.one; (focus rfl); (focus infer_instance); (focus (repeat (first | assumption | exact SetA.z | apply SetA.s)))))))) | (apply Nm.r; (focus repeat (first | apply LN.cons | exact LN.nil))) | refine Rf.mk ⟨rfl, rfl, rfl⟩ ?_ | fail)
  exact ⟨_, _, .one (.same (.nil (by (repeat (first | exact Subl.nil | refine Subl.cons (by (repeat (first | exact Take.here | apply Take.there))) ?_))))), _, _, _, _, _, rfl, rfl⟩
theorem sets_p : CallP Tryz.prog 37 [] (mdl setsM) := by
  refine CallA.fx sets_a ?_
  rintro _ _ ⟨vt, vo, va, vu, vw, rfl, rfl⟩
  repeat' (first
    | exact FX.nil
    | (apply FX.sl; (focus (repeat (first | exact Take.here | apply Take.there))); (focus exact Nat.le_of_ble_eq_true rfl))
    | apply FX.agg
    | (apply FX.le; (focus first | exact ALe.nil | exact ALe.refl _)))
end Go.Proofs.YtpgpdmmobblffaaGreat
namespace Go.Proofs.YtpgpdmmobblffaaGreat
open Go Go.CF
set_option maxRecDepth 20000
theorem bit_a (b : Bool) : CallA Tryz.prog 89 [bl b] [] fun r own => ∃ v, r = .ow v ∧ own = [arrR v 3 1 [[it (if b = true then 1 else 0)]] id] := by
  refine CallA.of pg ord89 Tryz.func89 rfl Tryz.ntmps89 Tryz.results89 rfl fun h0 G0 O0 => ?_
  cases b with
  | true =>
    repeat' (first | refine Sp.h ?_ | refine Lk.r rfl ?_ | refine Rf.mk rfl ?_ | (refine All.mk ?_; intro _) | (apply Fk.r; (focus (repeat (first | exact FillA.nil | (apply FillA.agg; (focus rfl); (focus rfl); (focus (repeat (first | exact SetAs.z | (apply SetAs.c; (focus (repeat (first | assumption | exact SetA.z | apply SetA.s)))))))) | (apply FillA.one; (focus rfl); (focus infer_instance); (focus (repeat (first | assumption | exact SetA.z | apply SetA.s)))))))) | (apply Nm.r; (focus repeat (first | apply LN.cons | exact LN.nil))) | refine Rf.mk ⟨rfl, rfl, rfl⟩ ?_ | fail)
    exact ⟨_, _, .one (.same (.nil (by (repeat (first | exact Subl.nil | refine Subl.cons (by (repeat (first | exact Take.here | apply Take.there))) ?_))))), _, rfl, rfl⟩
  | false =>
    repeat' (first | refine Sp.h ?_ | refine Lk.r rfl ?_ | refine Rf.mk rfl ?_ | (refine All.mk ?_; intro _) | (apply Fk.r; (focus (repeat (first | exact FillA.nil | (apply FillA.agg; (focus rfl); (focus rfl); (focus (repeat (first | exact SetAs.z | (apply SetAs.c; (focus (repeat (first | assumption | exact SetA.z | apply SetA.s)))))))) | (apply FillA.one; (focus rfl); (focus infer_instance); (focus (repeat (first | assumption | exact SetA.z | apply SetA.s)))))))) | (apply Nm.r; (focus repeat (first | apply LN.cons | exact LN.nil))) | refine Rf.mk ⟨rfl, rfl, rfl⟩ ?_ | fail)
    exact ⟨_, _, .one (.same (.nil (by (repeat (first | exact Subl.nil | refine Subl.cons (by (repeat (first | exact Take.here | apply Take.there))) ?_))))), _, rfl, rfl⟩
theorem bit_p (b : Bool) : CallP Tryz.prog 89 [bl b] (ints [if b = true then 1 else 0]) :=
  CallA.fx (bit_a b) fun _ _ ⟨_, e1, e2⟩ => by
    subst e1; subst e2
    exact .sl .here (Nat.le_of_ble_eq_true rfl) (.agg (.le (ALe.refl _) .nil) .nil) .nil
def setB (t : TblS) (g : MgS) : Bool := if t.kind = 2 then g.put || decide (0 < g.marks.length) else g.put && !g.drop && decide (g.marks.length = 0)
def setV (t : TblS) (g : MgS) : List Int := [if setB t g = true then 1 else 0]
theorem valuesS_p (t : TblS) (g : MgS) (h : t.kind = 2 ∨ t.kind = 3) : CallP Tryz.prog 45 [.agg (tblC t), .agg (mgC g)] (ints (setV t g)) := by
  obtain ⟨put, drop, l⟩ := g
  rcases h with h | h
  · have hB : setB t ⟨put, drop, l⟩ = (put || decide (0 < l.length)) := if_pos h
    refine CallA.of pg ord45 Tryz.func45 rfl Tryz.ntmps45 Tryz.results45 rfl fun h0 G0 O0 => ?_
    cases put with
    | true =>
      repeat' (first | refine Sp.h ?_ | refine Lk.r rfl ?_ | refine Rf.mk rfl ?_ | (apply Bd.t; (focus (first | assumption | omega | rfl))) | (refine All.mk ?_; intro _) | (apply TkB.r; (focus (repeat (first | exact Take.here | apply Take.there)))) | (apply Nm.r; (focus repeat (first | apply LN.cons | exact LN.nil))) | fail | (apply Cl.p (bit_p _); (focus repeat' (first | exact Lend.nil | apply Lend.keep | fail))))
      exact Fin.p rfl (congrArg ints (by unfold setV; rw [hB]; simp))
    | false =>
      repeat' (first | refine Sp.h ?_ | refine Lk.r rfl ?_ | refine Rf.mk rfl ?_ | (apply Bd.t; (focus (first | assumption | omega | rfl))) | (refine Im.mk ?_; intro _) | (refine All.mk ?_; intro _) | (apply TkB.r; (focus (repeat (first | exact Take.here | apply Take.there)))) | (apply Nm.r; (focus repeat (first | apply LN.cons | exact LN.nil))) | fail | (apply Cl.p (bit_p _); (focus repeat' (first | exact Lend.nil | apply Lend.keep | fail))))
      exact Fin.p rfl (congrArg ints (by unfold setV; rw [hB]; simp))
  · have hB : setB t ⟨put, drop, l⟩ = (put && !drop && decide (l.length = 0)) := if_neg (by omega)
    refine CallA.of pg ord45 Tryz.func45 rfl Tryz.ntmps45 Tryz.results45 rfl fun h0 G0 O0 => ?_
    cases put with
    | true =>
      cases drop with
      | true =>
        repeat' (first | refine Sp.h ?_ | refine Lk.r rfl ?_ | refine Rf.mk rfl ?_ | (apply Bd.t; (focus (first | assumption | omega | rfl))) | (apply Bd.f; (focus (first | assumption | omega | exact Bool.false_ne_true))) | (refine All.mk ?_; intro _) | (apply TkB.r; (focus (repeat (first | exact Take.here | apply Take.there)))) | (apply Nm.r; (focus repeat (first | apply LN.cons | exact LN.nil))) | fail | (apply Cl.p (bit_p _); (focus repeat' (first | exact Lend.nil | apply Lend.keep | fail))))
        exact Fin.p rfl (congrArg ints (by unfold setV; rw [hB]; simp))
      | false =>
        repeat' (first | refine Sp.h ?_ | refine Lk.r rfl ?_ | refine Rf.mk rfl ?_ | (apply Bd.t; (focus (first | assumption | omega | rfl))) | (apply Bd.f; (focus (first | assumption | omega | exact Bool.false_ne_true))) | (refine Im.mk ?_; intro _) | (refine All.mk ?_; intro _) | (apply TkB.r; (focus (repeat (first | exact Take.here | apply Take.there)))) | (apply Nm.r; (focus repeat (first | apply LN.cons | exact LN.nil))) | fail | (apply Cl.p (bit_p _); (focus repeat' (first | exact Lend.nil | apply Lend.keep | fail))))
        exact Fin.p rfl (congrArg ints (by unfold setV; rw [hB]; simp))
    | false =>
      repeat' (first | refine Sp.h ?_ | refine Lk.r rfl ?_ | refine Rf.mk rfl ?_ | (apply Bd.t; (focus (first | assumption | omega | rfl))) | (apply Bd.f; (focus (first | assumption | omega | exact Bool.false_ne_true))) | (refine All.mk ?_; intro _) | (apply TkB.r; (focus (repeat (first | exact Take.here | apply Take.there)))) | (apply Nm.r; (focus repeat (first | apply LN.cons | exact LN.nil))) | fail | (apply Cl.p (bit_p _); (focus repeat' (first | exact Lend.nil | apply Lend.keep | fail))))
      exact Fin.p rfl (congrArg ints (by unfold setV; rw [hB]; simp))
/-- The values of a list of sets. -/
def setsV (ts : List TblS) (l : List MgS) : List (List Int) := (ts.zip l).map fun p => setV p.1 p.2
theorem setsV_succ {ts : List TblS} {l : List MgS} {i : Nat} {t : TblS} {g : MgS} (ht : ts[i]? = some t) (hg : l[i]? = some g) : setsV (ts.take (i + 1)) (l.take (i + 1)) = setsV (ts.take i) (l.take i) ++ [setV t g] := by
  have h1 := (List.getElem?_eq_some_iff.1 ht).1
  have h2 := (List.getElem?_eq_some_iff.1 hg).1
  rw [List.take_add_one, List.take_add_one, ht, hg, setsV, Option.toList_some, Option.toList_some, List.zip_append (by simp; omega), List.map_append]
  rfl
theorem valuesL_p (m : ModS) (l : List MgS) (hm : LayOK m.sorts m.tables) (hv : ValL (mrgF m) l) (hs : ∀ t ∈ mrgF m, t.kind = 2 ∨ t.kind = 3) (hl : (mrgF m).length ≤ 1000) :
    CallP Tryz.prog 14 [mdl m, mgs l] (.tup [clks (setsV (mrgF m) l), it 0]) := by
  refine CallA.fzt (T := 22) (by simp [setsV]; omega) ?_
  have hva := validM_p m l hm
  have hce := cells_p m hm
  have hlen := hv.1
  refine CallA.of pg ord14 Tryz.func14 rfl Tryz.ntmps14 Tryz.results14 rfl fun h0 G0 O0 => ?_
  repeat' (first | refine Sp.h ?_ | refine Lk.r rfl ?_ | refine Rf.mk rfl ?_ | (apply Bd.t; (focus (first | assumption | omega | rfl))) | (refine Im.mk ?_; intro _) | (refine All.mk ?_; intro _) | (apply TkB.r; (focus (repeat (first | exact Take.here | apply Take.there)))) | refine Ch.l ⟨rfl, rfl⟩ ?_ | fail | (apply Cl.p (hva); (focus repeat' (first | exact Lend.nil | apply Lend.keep | fail))) | (apply Cl.p (hce); (focus repeat' (first | exact Lend.nil | apply Lend.keep | fail))))
  refine CA.nilOwn 6 22 1 clkC rfl fun v => ?_
  refine CA.loop (fun x : Nat × Value => ⟨[(1, mgs l), (6, .ow x.2), (14, tbls (mrgF m)), (15, it ((mrgF m).length : Nat)), (16, it x.1)], [arrR x.2 22 1 (setsV ((mrgF m).take x.1) (l.take x.1)) clkC]⟩) (fun x => x.1 ≤ (mrgF m).length) (fun x => (mrgF m).length - x.1) (0, v) ⟨by (repeat (first | exact trivial | refine ⟨rfl, ?_⟩)), by (repeat (first | exact Subl.nil | refine Subl.cons (by (repeat (first | exact Take.here | apply Take.there))) ?_))⟩ (Nat.zero_le _) ?_
  rintro ⟨i, w⟩ hi
  simp only at hi
  simp only
  by_cases hin : i < (mrgF m).length
  · obtain ⟨t, ht⟩ := get_of hin
    obtain ⟨g, hg⟩ := get_of (l := l) (i := i) (by omega)
    have hsu := setsV_succ ht hg
    have hva := valuesS_p t g (hs t (List.mem_of_getElem? ht))
    have hln : (setsV ((mrgF m).take i) (l.take i)).length ≤ 1000 := by simp [setsV]; omega
    repeat' (first | refine Sp.h ?_ | refine Lk.r rfl ?_ | refine Rf.mk rfl ?_ | (apply Bd.t; (focus (first | assumption | omega | rfl))) | refine OpK.r rfl ?_ | (apply Om.mk; (focus first | omega | (simp <;> omega))) | (refine All.mk ?_; intro _) | (apply TkA.r; (focus (repeat (first | exact Take.here | apply Take.there)))) | (apply TkB.r; (focus (repeat (first | exact Take.here | apply Take.there)))) | (apply Ix.q; (focus exact rfl); (focus assumption)) | refine Ce.r ?_ | refine Ch.l ⟨rfl, rfl⟩ ?_ | (apply SetAsk.r; (focus (repeat (first | exact SetAs.z | (apply SetAs.c; (focus (repeat (first | assumption | exact SetA.z | apply SetA.s)))))))) | (apply Fk.r; (focus (repeat (first | exact FillA.nil | (apply FillA.agg; (focus rfl); (focus rfl); (focus (repeat (first | exact SetAs.z | (apply SetAs.c; (focus (repeat (first | assumption | exact SetA.z | apply SetA.s)))))))) | (apply FillA.one; (focus rfl); (focus infer_instance); (focus (repeat (first | assumption | exact SetA.z | apply SetA.s)))))))) | (apply Nm.r; (focus repeat (first | apply LN.cons | exact LN.nil))) | refine Rf.mk ⟨rfl, rfl⟩ ?_ | refine Rf.mk ⟨rfl, rfl, rfl⟩ ?_ | (apply Mp.lit; (focus repeat (first | exact MpL.nil | (apply MpL.cons; (focus rfl)) | (apply MpL.inv; (focus repeat (first | apply LN.cons | exact LN.nil)); (focus infer_instance))))) | (apply CA.draw; (focus rfl); (focus kernel_rfl); (focus kernel_rfl); (focus repeat' (first | apply ON.one | exact ON.done | exact ON.none | apply ON.alt)); (focus rfl)) | (apply Ov.n; (focus first | omega | (simp <;> omega))) | fail | (apply Cl.p (hva); (focus repeat' (first | exact Lend.nil | apply Lend.keep | fail))))
    rw [← hsu]
    exact PA.lp (i + 1, _) ⟨by (repeat (first | exact trivial | refine ⟨rfl, ?_⟩)), by (repeat (first | exact Subl.nil | refine Subl.cons (by (repeat (first | exact Take.here | apply Take.there))) ?_))⟩ ⟨hin, by simp only; omega⟩
  · have hie : i = (mrgF m).length := by omega
    subst hie
    rw [List.take_length, List.take_of_length_le (l := l) (by omega)]
    repeat' (first | refine Sp.h ?_ | refine Lk.r rfl ?_ | refine Rf.mk rfl ?_ | (apply Bd.f; (focus (first | assumption | omega | exact Bool.false_ne_true))) | (apply Nm.r; (focus repeat (first | apply LN.cons | exact LN.nil))) | fail)
    exact ⟨_, _, .tup (.same (.same (.nil (by (repeat (first | exact Subl.nil | refine Subl.cons (by (repeat (first | exact Take.here | apply Take.there))) ?_)))))), _, rfl, rfl⟩
end Go.Proofs.YtpgpdmmobblffaaGreat
namespace Go.Proofs.YtpgpdmmobblffaaGreat
open Go Go.CF
set_option maxRecDepth 20000
def tA : TblS := ⟨⟨#[97]⟩, 2, [], 0, 1, 0⟩
def tR : TblS := ⟨⟨#[114]⟩, 3, [], 0, 1, 1⟩
theorem sets_mrg : mrgF setsM = [tA, tR] := by
  simp [mrgF, mrgL, setsM, isStrict, szF, prodF, tA, tR]
theorem sets_lay : LayOK setsM.sorts setsM.tables := by
  refine ⟨by simp [setsM], fun x hx => by simp [setsM] at hx, by simp [setsM], fun t ht => ?_⟩
  simp only [setsM, List.mem_cons, List.not_mem_nil, or_false] at ht
  rcases ht with rfl | rfl <;> simp [TabOK, ColOK, Sound, setsM]
theorem sets_ok : MOK setsM := by
  refine ⟨sets_lay, by simp [setsM], by simp [setsM], fun a ha => ?_, by simp [strF, strN, setsM, isStrict], by rw [sets_mrg]; simp⟩
  have hl : ((mrgF setsM).length : Int) = 2 := by rw [sets_mrg]; rfl
  simp only [setsM, List.mem_cons, List.not_mem_nil, or_false] at ha
  rcases ha with rfl | rfl
  all_goals
    refine ⟨by simp, by simp, by simp, fun p hp => by simp at hp, fun p hp => ?_⟩
    simp only [List.mem_cons, List.not_mem_nil, or_false] at hp
    rcases hp with rfl | rfl <;> rw [hl] <;> decide
def ev1 : EvS := ⟨0, 1, 1, [0, 0], 0, 0, 0, 0, 0, 0, 0, 0, 1⟩
def ev2 : EvS := ⟨1, 1, 1, [0, 0], 0, 1, 0, 0, 0, 0, 0, 0, 1⟩
def ev3 : EvS := ⟨0, 2, 2, [1, 1], 0, 0, 0, 0, 0, 0, 0, 0, 2⟩
def k1 : MkS := ⟨0, 1, 1, 0⟩
def k2 : MkS := ⟨1, 1, 1, 0⟩
def k3 : MkS := ⟨0, 2, 2, 0⟩
theorem valC2 (a b : Int) (h : (a = 0 ∨ a = 1) ∧ (b = 0 ∨ b = 1)) : ValC [a, b] := by
  refine ⟨fun x hx => ?_, by simp, by simp⟩
  simp only [List.mem_cons, List.not_mem_nil, or_false] at hx
  unfold rngK
  omega
theorem ev1_ok : EvV setsM (ev1.past.length : Nat) ev1 := by
  refine ⟨⟨valC2 0 0 (by decide), by decide, ⟨0, by decide, by decide⟩, by decide, by unfold Btw; decide, .inl ⟨rfl, ?_, ?_⟩⟩, rfl, fun _ => by simp [ev1, setsM]⟩
  · unfold Sub0 Btw; decide
  · unfold GiveZ; decide
theorem ev2_ok : EvV setsM (ev2.past.length : Nat) ev2 := by
  refine ⟨⟨valC2 0 0 (by decide), by decide, ⟨0, by decide, by decide⟩, by decide, by unfold Btw; decide, .inl ⟨rfl, ?_, ?_⟩⟩, rfl, fun _ => by simp [ev2, setsM]⟩
  · unfold Sub0 Btw; decide
  · unfold GiveZ; decide
theorem ev3_ok : EvV setsM (ev3.past.length : Nat) ev3 := by
  refine ⟨⟨valC2 1 1 (by decide), by decide, ⟨1, by decide, by decide⟩, by decide, by unfold Btw; decide, .inl ⟨rfl, ?_, ?_⟩⟩, rfl, fun _ => by simp [ev3, setsM]⟩
  · unfold Sub0 Btw; decide
  · unfold GiveZ; decide
/-- What can be known of both sets: few marks, each with a name of its own. -/
theorem val_one {t : TblS} {p : Bool} {x : MkS} (hk : t.kind = 2 ∨ t.kind = 3) (hx : RightK t x) : ValG t ⟨p, false, [x]⟩ := by
  refine ⟨⟨fun h => by simp at h, fun h => by have := h.2; unfold isReg at this; omega, fun h => by simp at h, by simp⟩, fun i y hi hy => ?_⟩
  match i, hi, hy with
  | 0, _, hy =>
    have hy : x = y := by simpa using hy
    subst hy
    exact ⟨hx, fun j z h => by omega, fun z h => by omega⟩
theorem val_none {t : TblS} {p : Bool} (hk : t.kind = 2 ∨ t.kind = 3) : ValG t ⟨p, false, []⟩ :=
  ⟨⟨fun h => by simp at h, fun h => by have := h.2; unfold isReg at this; omega, fun h => by simp at h, by simp⟩, fun i y hi _ => by simp at hi⟩
theorem val_two {t : TblS} {p : Bool} {x y : MkS} (hk : t.kind = 2 ∨ t.kind = 3) (hx : RightK t x) (hy : RightK t y) (hn : ¬ Nm x y) (hl : ¬ LtK y x) : ValG t ⟨p, false, [x, y]⟩ := by
  refine ⟨⟨fun h => by simp at h, fun h => by have := h.2; unfold isReg at this; omega, fun h => by omega, by simp⟩, fun i z hi hz => ?_⟩
  match i, hi, hz with
  | 0, _, hz =>
    have hz : x = z := by simpa using hz
    subst hz
    exact ⟨hx, fun j z h => by omega, fun z h => by omega⟩
  | 1, _, hz =>
    have hz : y = z := by simpa using hz
    subst hz
    refine ⟨hy, fun j w hj hw => ?_, fun w _ hw => ?_⟩
    · have : j = 0 := by omega
      subst this
      have hw : x = w := by simpa using hw
      subst hw
      exact hn
    · have hw : x = w := by simpa using hw
      subst hw
      exact hl
def L0 : List MgS := [mg0, mg0]
def L1 : List MgS := [⟨false, false, [k1]⟩, ⟨true, false, []⟩]
def L2 : List MgS := [⟨false, false, [k1]⟩, ⟨true, false, [k2]⟩]
def L3 : List MgS := [⟨false, false, [k1, k3]⟩, ⟨true, false, []⟩]
theorem right_sets {t : TblS} {x : MkS} (ht : t = tA ∨ t = tR) (hx : x = k1 ∨ x = k2 ∨ x = k3) : RightK t x := by
  have hr : ¬ isReg t.kind := by rcases ht with rfl | rfl <;> simp [isReg, tA, tR]
  unfold RightK
  rw [show lowT t = 0 from if_neg hr, show highT t = 0 from if_neg hr]
  rcases hx with rfl | rfl | rfl <;> simp [k1, k2, k3]
theorem vl_two {a b : MgS} (ha : ValG tA a) (hb : ValG tR b) : ValL [tA, tR] [a, b] := by
  refine ⟨rfl, fun i t g ht hg => ?_⟩
  match i, ht, hg with
  | 0, ht, hg => simp at ht hg; subst ht; subst hg; exact ha
  | 1, ht, hg => simp at ht hg; subst ht; subst hg; exact hb
theorem vl0 : ValL [tA, tR] L0 := vl_two (val_none (.inl rfl)) (val_none (.inr rfl))
theorem vl1 : ValL [tA, tR] L1 := vl_two (val_one (.inl rfl) (right_sets (.inl rfl) (by simp))) (val_none (.inr rfl))
theorem vl2 : ValL [tA, tR] L2 := vl_two (val_one (.inl rfl) (right_sets (.inl rfl) (by simp))) (val_one (.inr rfl) (right_sets (.inr rfl) (by simp)))
theorem vl3 : ValL [tA, tR] L3 := vl_two (val_two (.inl rfl) (right_sets (.inl rfl) (by simp)) (right_sets (.inl rfl) (by simp)) (by simp [Nm, k1, k3]) (by simp [LtK, k1, k3])) (val_none (.inr rfl))
theorem applyF_two {m : ModS} {a b : MgS} {e : EvS} {x y : MgS} (hm : mrgF m = [tA, tR]) (hv : ValL [tA, tR] [a, b]) (he : EvV m (e.past.length : Nat) e) (hk : e.kind = 0) (hx : cellF e tA (updF (usF m e) 0) a = (0, x)) (hy : cellF e tR (updF (usF m e) 1) b = (0, y)) : applyF m [a, b] e = (0, [x, y]) := by
  have hC : cellsF (mrgF m) [a, b] (usF m e) e = [(0, x), (0, y)] := by
    rw [hm]
    have e1 : cellF e tA (updF (usF m e) ((0 : Nat) : Int)) a = (0, x) := hx
    have e2 : cellF e tR (updF (usF m e) ((1 : Nat) : Int)) b = (0, y) := hy
    simp only [cellsF, List.length_cons, List.length_nil, List.range_succ, List.range_zero, List.nil_append, List.cons_append, List.map_cons, List.map_nil, List.getElem?_cons_zero, List.getElem?_cons_succ, e1, e2]
  rw [applyF, if_neg (fun h => h ⟨by rw [hm]; exact hv, he⟩), if_neg (fun h => h hk), hC, gather_end (by simp)]
  simp
theorem has_k (a b : Int) (r n : Int) (h : ¬ (0 ≤ r ∧ 1 ≤ n ∧ ∃ x, [a, b][r.toNat]? = some x ∧ n ≤ x)) : ¬ HasC [a, b] r n := fun h9 => h h9.2
theorem app1 : applyF setsM L0 ev1 = (0, L1) := by
  refine applyF_two sets_mrg vl0 ev1_ok rfl ?_ ?_
  · show cellF ev1 tA (some (0, 0, 0)) mg0 = _
    simp [cellF, tA, mg0, addF, HasNm, insK, posK, idxN, isReg, ev1, k1]
  · show cellF ev1 tR (some (0, 1, 0)) mg0 = _
    simp [cellF, tR, mg0, fgK]
theorem app2 : applyF setsM L1 ev2 = (0, L2) := by
  refine applyF_two sets_mrg vl1 ev2_ok rfl ?_ ?_
  · show cellF ev2 tA (some (1, 0, 0)) ⟨false, false, [k1]⟩ = _
    have h : ¬ HasC [0, 0] 0 1 := has_k _ _ _ _ (by simp)
    simp [cellF, tA, fgK, ev2, k1, h]
  · show cellF ev2 tR (some (1, 1, 0)) ⟨true, false, []⟩ = _
    simp [cellF, tR, addF, HasNm, insK, posK, idxN, isReg, ev2, k2]
theorem app3 : applyF setsM L2 ev3 = (0, L3) := by
  refine applyF_two sets_mrg vl2 ev3_ok rfl ?_ ?_
  · show cellF ev3 tA (some (0, 0, 0)) ⟨false, false, [k1]⟩ = _
    simp [cellF, tA, addF, HasNm, Nm, insK, posK, idxN, LtK, isReg, ev3, k1, k3]
  · show cellF ev3 tR (some (0, 1, 0)) ⟨true, false, [k2]⟩ = _
    have h : HasC [1, 1] 1 1 := ⟨valC2 1 1 (by decide), by decide, by decide, 1, rfl, by decide⟩
    simp [cellF, tR, fgK, ev3, k2, h]
theorem setsV2 : setsV [tA, tR] L2 = [[1], [0]] := by decide
theorem setsV3 : setsV [tA, tR] L3 = [[1], [1]] := by decide
end Go.Proofs.YtpgpdmmobblffaaGreat
namespace Go.Proofs.YtpgpdmmobblffaaGreat
open Go Go.CF
set_option maxRecDepth 20000
theorem out_fx {v : Value} {L : List MgE} (hl : L.length ≤ 1000000) (hm : ∀ x ∈ L, x.marks.length ≤ 1000000) {l l' : List AV} {own : List Res} (ht : FX [] l l' own) : FX (outR v L) (.ow v :: l) (mgs (L.map MgE.g) :: l') own := by
  refine .sl .here (by omega) (.unb .here ?_) ht
  refine FX.rows (o := []) (r := mgeR) (f := mgeC) (g := mgC) (φ := MgE.g) L fun x hx o' => ?_
  have := hm x hx
  exact .le (ALe.refl _) (.le (ALe.refl _) (.sl .here (by omega) (FX.refl _) .nil))
theorem applyOK_p (m : ModS) (l : List MgS) (e : EvS) (F : List MgS) (hm : MOK m) (hF : applyF m l e = (0, F)) (hl : F.length ≤ 1000000) (hk : ∀ g ∈ F, g.marks.length ≤ 1000000) :
    CallP Tryz.prog 12 [mdl m, mgs l, evA' e] (.tup [mgs F, it 0]) := by
  refine CallA.fx (apply_a m l e hm) ?_
  rw [hF]
  rintro r o (⟨v, L, _, rfl, rfl, hL⟩ | ⟨h, _⟩)
  · have hL : L.map MgE.g = F := hL
    subst hL
    exact .tup (out_fx (by simpa using hl) (fun x hx => hk x.g (List.mem_map_of_mem hx)) (FX.refl _)) .nil
  · exact absurd rfl h
theorem new0_p : CallP Tryz.prog 18 [mdl setsM] (mgs L0) := by
  have h := new_p setsM sets_lay
  rw [sets_mrg] at h
  exact h
theorem app1_p : CallP Tryz.prog 12 [mdl setsM, mgs L0, evA' ev1] (.tup [mgs L1, it 0]) := applyOK_p _ _ _ _ sets_ok app1 (by decide) (by decide)
theorem app2_p : CallP Tryz.prog 12 [mdl setsM, mgs L1, evA' ev2] (.tup [mgs L2, it 0]) := applyOK_p _ _ _ _ sets_ok app2 (by decide) (by decide)
theorem app3_p : CallP Tryz.prog 12 [mdl setsM, mgs L2, evA' ev3] (.tup [mgs L3, it 0]) := applyOK_p _ _ _ _ sets_ok app3 (by decide) (by decide)
theorem sets_k : ∀ t ∈ mrgF setsM, t.kind = 2 ∨ t.kind = 3 := by
  rw [sets_mrg]; decide
theorem val2_p : CallP Tryz.prog 14 [mdl setsM, mgs L2] (.tup [clks [[1], [0]], it 0]) := by
  have h := valuesL_p setsM L2 sets_lay (by rw [sets_mrg]; exact vl2) sets_k (by rw [sets_mrg]; decide)
  rwa [sets_mrg, setsV2] at h
theorem val3_p : CallP Tryz.prog 14 [mdl setsM, mgs L3] (.tup [clks [[1], [1]], it 0]) := by
  have h := valuesL_p setsM L3 sets_lay (by rw [sets_mrg]; exact vl3) sets_k (by rw [sets_mrg]; decide)
  rwa [sets_mrg, setsV3] at h
set_option maxHeartbeats 4000000 in
theorem awake34_p : CallP Tryz.prog 8 [] (bl true) := by
  have hs := sets_p
  have hn := new0_p
  have hsa := same34_p L2 L2
  have hl2 := listsQ_p [[1], [0]] [[1], [0]]
  have hl3 := listsQ_p [[1], [1]] [[1], [1]]
  have g2 : L3[0]? = some ⟨false, false, [k1, k3]⟩ := rfl
  have g3 : L3[1]? = some ⟨true, false, []⟩ := rfl
  have g4 : (L3.length : Int) = 2 := rfl
  have g5 : (([k1, k3] : List MkS).length : Int) = 2 := rfl
  refine CallA.of pg ord8 Tryz.func8 rfl Tryz.ntmps8 Tryz.results8 rfl fun h0 G0 O0 => ?_
  repeat' (first | refine Sp.h ?_ | refine Lk.r rfl ?_ | refine Rf.mk rfl ?_ | (refine All.mk ?_; intro _) | (apply TkA.r; (focus (repeat (first | exact Take.here | apply Take.there)))) | (apply TkB.r; (focus (repeat (first | exact Take.here | apply Take.there)))) | refine Ch.l ⟨rfl, rfl⟩ ?_ | (apply SetAsk.r; (focus (repeat (first | exact SetAs.z | (apply SetAs.c; (focus (repeat (first | assumption | exact SetA.z | apply SetA.s)))))))) | (apply Fk.r; (focus (repeat (first | exact FillA.nil | (apply FillA.agg; (focus rfl); (focus rfl); (focus (repeat (first | exact SetAs.z | (apply SetAs.c; (focus (repeat (first | assumption | exact SetA.z | apply SetA.s)))))))) | (apply FillA.one; (focus rfl); (focus infer_instance); (focus (repeat (first | assumption | exact SetA.z | apply SetA.s)))))))) | (apply Nm.r; (focus repeat (first | apply LN.cons | exact LN.nil))) | refine Rf.mk ⟨rfl, rfl, rfl⟩ ?_ | fail | (apply Cl.p (hs); (focus repeat' (first | exact Lend.nil | apply Lend.keep | fail))) | (apply Cl.p (hn); (focus repeat' (first | exact Lend.nil | apply Lend.keep | fail))))
  rename_i b1 _ _ _
  apply CA.freezeX 20 (b := evs [ev1, ev2])
  focus rfl
  focus (repeat' (first | exact FX.nil | (apply FX.sl; (focus (repeat (first | exact Take.here | apply Take.there))); (focus exact Nat.le_of_ble_eq_true rfl)) | (apply FX.le; (focus first | exact ALe.refl _ | exact ALe.nil)) | apply FX.agg | apply FX.tup))
  refine CA.loop (fun x : Nat × List MgS => ⟨[(1, pm b1), (2, mgs x.2), (20, evs [ev1, ev2]), (21, it (2 : Nat)), (22, it x.1)], [blkR b1 30 (modC setsM)]⟩)
    (fun x => x = (0, L0) ∨ x = (1, L1) ∨ x = (2, L2)) (fun x => 2 - x.1) (0, L0) ⟨by (repeat (first | exact trivial | refine ⟨rfl, ?_⟩)), by (repeat (first | exact Subl.nil | refine Subl.cons (by (repeat (first | exact Take.here | apply Take.there))) ?_))⟩ (.inl rfl) ?_
  have g0 : [ev1, ev2][0]? = some ev1 := rfl
  have g1 : [ev1, ev2][1]? = some ev2 := rfl
  rintro x (rfl | rfl | rfl)
  · simp only
    repeat' (first | refine Sp.h ?_ | refine Lk.r rfl ?_ | refine Rf.mk rfl ?_ | (apply Bd.t; (focus (first | assumption | omega | rfl))) | (refine All.mk ?_; intro _) | (apply TkB.r; (focus (repeat (first | exact Take.here | apply Take.there)))) | (apply Ix.q; (focus exact rfl); (focus assumption)) | refine Ch.l ⟨rfl, rfl⟩ ?_ | (apply SetAsk.r; (focus (repeat (first | exact SetAs.z | (apply SetAs.c; (focus (repeat (first | assumption | exact SetA.z | apply SetA.s)))))))) | (apply Nm.r; (focus repeat (first | apply LN.cons | exact LN.nil))) | (apply Ov.n; (focus first | omega | (simp <;> omega))) | fail | (apply Cl.p (app1_p); (focus repeat' (first | exact Lend.nil | apply Lend.keep | fail))))
    exact PA.lp (1, L1) ⟨by (repeat (first | exact trivial | refine ⟨rfl, ?_⟩)), by (repeat (first | exact Subl.nil | refine Subl.cons (by (repeat (first | exact Take.here | apply Take.there))) ?_))⟩ ⟨.inr (.inl rfl), by decide⟩
  · simp only
    repeat' (first | refine Sp.h ?_ | refine Lk.r rfl ?_ | refine Rf.mk rfl ?_ | (apply Bd.t; (focus (first | assumption | omega | rfl))) | (refine All.mk ?_; intro _) | (apply TkB.r; (focus (repeat (first | exact Take.here | apply Take.there)))) | (apply Ix.q; (focus exact rfl); (focus assumption)) | refine Ch.l ⟨rfl, rfl⟩ ?_ | (apply SetAsk.r; (focus (repeat (first | exact SetAs.z | (apply SetAs.c; (focus (repeat (first | assumption | exact SetA.z | apply SetA.s)))))))) | (apply Nm.r; (focus repeat (first | apply LN.cons | exact LN.nil))) | (apply Ov.n; (focus first | omega | (simp <;> omega))) | fail | (apply Cl.p (app2_p); (focus repeat' (first | exact Lend.nil | apply Lend.keep | fail))))
    exact PA.lp (2, L2) ⟨by (repeat (first | exact trivial | refine ⟨rfl, ?_⟩)), by (repeat (first | exact Subl.nil | refine Subl.cons (by (repeat (first | exact Take.here | apply Take.there))) ?_))⟩ ⟨.inr (.inr rfl), by decide⟩
  · simp only
    repeat' (first | refine Sp.h ?_ | refine Lk.r rfl ?_ | refine Rf.mk rfl ?_ | (apply Bd.f; (focus (first | assumption | omega | exact Bool.false_ne_true))) | (apply TkB.r; (focus (repeat (first | exact Take.here | apply Take.there)))) | refine Ch.l ⟨rfl, rfl⟩ ?_ | fail)
    (apply Cl.p (val2_p); (focus repeat' (first | exact Lend.nil | apply Lend.keep | fail)))
    repeat' (first | refine Sp.h ?_ | refine Lk.r rfl ?_ | refine Rf.mk rfl ?_ | (refine All.mk ?_; intro _) | (apply TkB.r; (focus (repeat (first | exact Take.here | apply Take.there)))) | refine Ch.l ⟨rfl, rfl⟩ ?_ | (apply Fk.r; (focus (repeat (first | exact FillA.nil | (apply FillA.agg; (focus rfl); (focus rfl); (focus (repeat (first | exact SetAs.z | (apply SetAs.c; (focus (repeat (first | assumption | exact SetA.z | apply SetA.s)))))))) | (apply FillA.one; (focus rfl); (focus infer_instance); (focus (repeat (first | assumption | exact SetA.z | apply SetA.s)))))))) | refine Rf.mk ⟨rfl, rfl, rfl⟩ ?_ | fail)
    apply Cl.fx [mdl setsM, mgs L2, evA' ev3]
    focus (repeat' (first | exact FX.nil | (apply FX.sl; (focus (repeat (first | exact Take.here | apply Take.there))); (focus exact Nat.le_of_ble_eq_true rfl)) | (apply FX.le; (focus first | exact ALe.refl _ | exact ALe.nil)) | apply FX.agg | apply FX.tup))
    (apply Cl.p (app3_p); (focus repeat' (first | exact Lend.nil | apply Lend.keep | fail)))
    repeat' (first | refine Sp.h ?_ | refine Lk.r rfl ?_ | refine Rf.mk rfl ?_ | (apply TkB.r; (focus (repeat (first | exact Take.here | apply Take.there)))) | refine Ch.l ⟨rfl, rfl⟩ ?_ | fail)
    (apply Cl.p (val3_p); (focus repeat' (first | exact Lend.nil | apply Lend.keep | fail)))
    repeat' (first | refine Sp.h ?_ | refine Lk.r rfl ?_ | refine Rf.mk rfl ?_ | (refine All.mk ?_; intro _) | (apply Fk.r; (focus (repeat (first | exact FillA.nil | (apply FillA.agg; (focus rfl); (focus rfl); (focus (repeat (first | exact SetAs.z | (apply SetAs.c; (focus (repeat (first | assumption | exact SetA.z | apply SetA.s)))))))) | (apply FillA.one; (focus rfl); (focus infer_instance); (focus (repeat (first | assumption | exact SetA.z | apply SetA.s)))))))) | refine Rf.mk ⟨rfl, rfl, rfl⟩ ?_ | fail)
    apply Cl.fx [mgs L2, mgs L2]
    focus (repeat' (first | exact FX.nil | (apply FX.sl; (focus (repeat (first | exact Take.here | apply Take.there))); (focus exact Nat.le_of_ble_eq_true rfl)) | (apply FX.le; (focus first | exact ALe.refl _ | exact ALe.nil)) | apply FX.agg | apply FX.tup))
    (apply Cl.p (hsa); (focus repeat' (first | exact Lend.nil | apply Lend.keep | fail)))
    rw [decide_eq_true rfl]
    repeat' (first | refine Sp.h ?_ | refine Lk.r rfl ?_ | refine Rf.mk rfl ?_ | (apply Bd.t; (focus (first | assumption | omega | rfl))) | (refine All.mk ?_; intro _) | (apply Fk.r; (focus (repeat (first | exact FillA.nil | (apply FillA.agg; (focus rfl); (focus rfl); (focus (repeat (first | exact SetAs.z | (apply SetAs.c; (focus (repeat (first | assumption | exact SetA.z | apply SetA.s)))))))) | (apply FillA.one; (focus rfl); (focus infer_instance); (focus (repeat (first | assumption | exact SetA.z | apply SetA.s)))))))) | refine Rf.mk ⟨rfl, rfl, rfl⟩ ?_ | fail)
    apply Cl.fx [clks [[1], [0]], clks [[1], [0]]]
    focus (repeat' (first | exact FX.nil | (apply FX.sl; (focus (repeat (first | exact Take.here | apply Take.there))); (focus exact Nat.le_of_ble_eq_true rfl)) | (apply FX.le; (focus first | exact ALe.refl _ | exact ALe.nil)) | apply FX.agg | apply FX.tup))
    (apply Cl.p (hl2); (focus repeat' (first | exact Lend.nil | apply Lend.keep | fail)))
    rw [decide_eq_true rfl]
    repeat' (first | refine Sp.h ?_ | refine Lk.r rfl ?_ | refine Rf.mk rfl ?_ | (apply Bd.t; (focus (first | assumption | omega | rfl))) | (refine All.mk ?_; intro _) | (apply Fk.r; (focus (repeat (first | exact FillA.nil | (apply FillA.agg; (focus rfl); (focus rfl); (focus (repeat (first | exact SetAs.z | (apply SetAs.c; (focus (repeat (first | assumption | exact SetA.z | apply SetA.s)))))))) | (apply FillA.one; (focus rfl); (focus infer_instance); (focus (repeat (first | assumption | exact SetA.z | apply SetA.s)))))))) | refine Rf.mk ⟨rfl, rfl, rfl⟩ ?_ | fail)
    apply Cl.fx [clks [[1], [1]], clks [[1], [1]]]
    focus (repeat' (first | exact FX.nil | (apply FX.sl; (focus (repeat (first | exact Take.here | apply Take.there))); (focus exact Nat.le_of_ble_eq_true rfl)) | (apply FX.le; (focus first | exact ALe.refl _ | exact ALe.nil)) | apply FX.agg | apply FX.tup))
    (apply Cl.p (hl3); (focus repeat' (first | exact Lend.nil | apply Lend.keep | fail)))
    rw [decide_eq_true rfl]
    repeat' (first | refine Sp.h ?_ | refine Lk.r rfl ?_ | refine Rf.mk rfl ?_ | (apply Bd.t; (focus (first | assumption | omega | rfl))) | (refine Im.mk ?_; intro _) | (apply Ix.q; (focus exact rfl); (focus assumption)) | (apply Nm.r; (focus repeat (first | apply LN.cons | exact LN.nil))) | fail)
    exact Fin.p rfl (vb rfl)
end Go.Proofs.YtpgpdmmobblffaaGreat
namespace Go.CF
open Go
/-- A part of a readable slice. -/
theorem sl_part {h : Heap} {G : Nat → Prop} {α : Type} {sz : Nat} {l : List α} {f : α → List AV} {p : Option Addr} {len cap j m : Nat} (hs : (AV.sl sz l f).R h G (.slice p len cap)) (hjm : j + m ≤ len) : (AV.sl sz ((l.drop j).take m) f).R h G (.slice (subA p sz j cap) m (cap - j)) := by
  obtain ⟨hm, ⟨rfl, q, cap', e⟩ | ⟨bk, of, cap', rows, e, k1, k2, k3, k4, k5, k6⟩⟩ := hs
  · cases e
    have h0 : m = 0 := by omega
    subst h0
    exact ⟨by simp, .inl ⟨by simp, _, _, rfl⟩⟩
  · cases e
    have hlen : ((l.drop j).take m).length = m := by simp; omega
    refine ⟨by omega, ?_⟩
    rcases Nat.eq_zero_or_pos m with h9 | h9
    · subst h9
      exact .inl ⟨by simp, _, _, rfl⟩
    · refine .inr ⟨bk, of + j * sz, cap - j, (rows.drop j).take m, ?_, by omega, by omega, k3, k4, ?_, (k6.drop j).take m⟩
      · rw [hlen]
        unfold subA
        rw [if_neg (by omega)]
        simp [Addr.add]
      · have hsz := k6.sz
        have e1 : (rows.drop j).flatten = rows.flatten.drop (j * sz) := by
          have e2 : rows.flatten = (rows.take j).flatten ++ (rows.drop j).flatten := by rw [← List.flatten_append, List.take_append_drop]
          have e3 : (rows.take j).flatten.length = j * sz := by rw [flat_len _ (fun r hr => hsz r (List.mem_of_mem_take hr)), List.length_take, k6.len]; congr 1 <;> omega
          rw [e2, ← e3, List.drop_left]
        have e4 : ((rows.drop j).take m).flatten = (rows.flatten.drop (j * sz)).take (m * sz) := by
          have e2 : (rows.drop j).flatten = ((rows.drop j).take m).flatten ++ ((rows.drop j).drop m).flatten := by rw [← List.flatten_append, List.take_append_drop]
          have e3 : ((rows.drop j).take m).flatten.length = m * sz := by rw [flat_len _ (fun r hr => hsz r (List.mem_of_mem_drop (List.mem_of_mem_take hr))), List.length_take, List.length_drop, k6.len]; congr 1 <;> omega
          rw [← e1, e2, ← e3, List.take_left]
        rw [e4]
        refine ⟨fun i v hv => ?_⟩
        rw [List.getElem?_take] at hv
        split at hv
        · rw [List.getElem?_drop] at hv
          have := k5.cell hv
          rw [addr_add, show of + j * sz + i = of + (j * sz + i) by omega]
          exact this
        · cases hv
/-- What may be lent. -/
structure Avl (h : Heap) (G W : Nat → Prop) (S : List Res) : Prop where
  all : ∀ R ∈ S, ∃ O, R.R h O G ∧ ∀ b, O b → W b
theorem Avl.of {h : Heap} {G : Nat → Prop} : ∀ {o : List Res} {Os : List (Nat → Prop)}, OwnL h G o Os → Avl h G (U Os) o
  | [], _, _ => ⟨fun R hR => by cases hR⟩
  | R :: o, O :: Os, ⟨h1, h2⟩ => ⟨fun X hX => by
    rcases List.mem_cons.1 hX with rfl | hX
    · exact ⟨O, h1, fun b hb => ⟨O, by simp, hb⟩⟩
    · obtain ⟨A, a1, a2⟩ := (Avl.of h2).all X hX
      exact ⟨A, a1, fun b hb => by obtain ⟨B, b1, b2⟩ := a2 b hb; exact ⟨B, by simp [b1], b2⟩⟩⟩
theorem Avl.unb {h : Heap} {G W : Nat → Prop} {S rs : List Res} (a : Avl h G W S) (hb : bunR rs ∈ S) : Avl h G W (rs ++ S) := ⟨fun R hR => by
  rcases List.mem_append.1 hR with hR | hR
  · obtain ⟨O, ⟨Os, h1, _, h3⟩, h4⟩ := a.all _ hb
    obtain ⟨A, a1, a2⟩ := (Avl.of h1).all R hR
    exact ⟨A, a1, fun b hb => h4 b ((h3 b).2 (a2 b hb))⟩
  · exact a.all R hR⟩
inductive LX : List Res → List AV → List AV → Prop where
  | nil {S : List Res} : LX S [] []
  | le {S : List Res} {a b : AV} {l l' : List AV} : ALe a b → LX S l l' → LX S (a :: l) (b :: l')
  | agg {S : List Res} {cs cs' l l' : List AV} : LX S cs cs' → LX S l l' → LX S (.agg cs :: l) (.agg cs' :: l')
  | unb {S rs : List Res} {l l' : List AV} : bunR rs ∈ S → LX (rs ++ S) l l' → LX S l l'
  | sl {S : List Res} {l l' : List AV} {α β : Type} {v : Value} {T sz : Nat} {xs : List α} {f : α → List AV} {ys : List β} {g : β → List AV} :
      arrR v T sz xs f ∈ S → xs.length ≤ 9223372036854775807 → LX S (xs.map fun x => .agg (f x)) (ys.map fun y => .agg (g y)) → LX S l l' → LX S (.ow v :: l) (.sl sz ys g :: l')
  | os {S : List Res} {l l' : List AV} {α β : Type} {v : Value} {T sz j m : Nat} {xs : List α} {f : α → List AV} {ys : List β} {g : β → List AV} :
      arrR v T sz xs f ∈ S → xs.length ≤ 9223372036854775807 → LX S (((xs.drop j).take m).map fun x => .agg (f x)) (ys.map fun y => .agg (g y)) → LX S l l' → LX S (.os v sz j m :: l) (.sl sz ys g :: l')
theorem LX.refl {S : List Res} : ∀ l : List AV, LX S l l
  | [] => .nil
  | a :: l => .le (ALe.refl a) (LX.refl l)
theorem LX.len {S : List Res} {l l' : List AV} (x : LX S l l') : l.length = l'.length := by
  induction x with
  | nil => rfl
  | le _ _ ih => simp [ih]
  | agg _ _ _ ih => simp [ih]
  | unb _ _ ih => exact ih
  | sl _ _ _ _ _ ih => simp [ih]
  | os _ _ _ _ _ ih => simp [ih]
theorem sl_rows {h : Heap} {G : Nat → Prop} {α β : Type} {sz : Nat} {xs : List α} {f : α → List AV} {ys : List β} {g : β → List AV} {v : Value} (hl : xs.length = ys.length) (hc : ∀ vs, RepT h G vs (xs.map fun x => .agg (f x)) → RepT h G vs (ys.map fun y => .agg (g y))) (hs : (AV.sl sz xs f).R h G v) : (AV.sl sz ys g).R h G v := by
  obtain ⟨h1, ⟨h2, p, cap, h3⟩ | ⟨b, o, cap, rows, h2, h3, h4, h5, h6, h7, h8⟩⟩ := hs
  · subst h2
    exact ⟨by rw [← hl]; exact h1, .inl ⟨List.eq_nil_of_length_eq_zero (by rw [← hl]; rfl), p, cap, h3⟩⟩
  · exact ⟨by rw [← hl]; exact h1, .inr ⟨b, o, cap, rows, by rw [← hl]; exact h2, by rw [← hl]; exact h3, by rw [← hl]; exact h4, h5, h6, h7, RepLL.to (RepLL.unaggs (hc _ (RepLL.of h8).aggs)) h8.sz⟩⟩
theorem LX.rep {h : Heap} {G W : Nat → Prop} {S : List Res} {l l' : List AV} (x : LX S l l') (a : Avl h G W S) : ∀ {vs : List Value}, RepT h (fun b => G b ∨ W b) vs l → RepT h (fun b => G b ∨ W b) vs l' := by
  induction x with
  | nil => exact fun h => h
  | le ha _ ih =>
    intro vs hr
    match vs, hr with
    | v :: vs, ⟨r1, r2⟩ => exact ⟨ha.le r1, ih a r2⟩
  | agg _ _ ih1 ih =>
    intro vs hr
    match vs, hr with
    | v :: vs, ⟨⟨ws, r1, r3⟩, r2⟩ => exact ⟨⟨ws, r1, ih1 a r3.t, r3.one⟩, ih a r2⟩
  | unb hb _ ih => exact fun hr => ih (a.unb hb) hr
  | sl hin hl hx _ ih1 ih =>
    intro vs hr
    match vs, hr with
    | v :: vs, ⟨⟨r1, _⟩, r2⟩ =>
      subst r1
      obtain ⟨O, o1, o2⟩ := a.all _ hin
      have hlen := hx.len
      simp only [List.length_map] at hlen
      exact ⟨sl_rows hlen (fun vs hv => ih1 a hv) (AV.mono _ (fun b hb => hb.imp id (o2 b)) (sl_of_own o1 hl)), ih a r2⟩
  | os hin hl hx _ ih1 ih =>
    intro vs hr
    match vs, hr with
    | u :: vs, ⟨⟨p, len, cap, e1, e2, e3⟩, r2⟩ =>
      subst e1; subst e3
      obtain ⟨O, o1, o2⟩ := a.all _ hin
      have hlen := hx.len
      simp only [List.length_map] at hlen
      exact ⟨sl_rows hlen (fun vs hv => ih1 a hv) (sl_part (AV.mono _ (fun b hb => hb.imp id (o2 b)) (sl_of_own o1 hl)) e2), ih a r2⟩
theorem Cl.lendX {Γ : Cx} {c : Cls} {o : List Res} {f : FuncId} {asx as' : List AV} {r : AV} {M : AV → List Res → Prop} [hf : Flat r] (hc : CallP Γ.P f as' r) (hl : LX o asx as') (hm : M r o) : Cl Γ c f asx o M := by
  refine ⟨fun {h0 G0 O0 h G Os vs} hp hr => ?_⟩
  have hin : HpOK h (fun b => G b ∨ U Os b) (U []) [] h (fun b => G b ∨ U Os b) [] :=
    ⟨trivial, fun b hb => ⟨hb.elim (fun h9 => (hp.g b h9).1) (fun ⟨O, hO, h9⟩ => (hp.o O hO b h9).1), .inl hb⟩, fun _ h => h, fun O hO => (by cases hO), List.Pairwise.nil, FPx.refl h⟩
  refine (CallA.run hc h _ [] vs (hl.rep (Avl.of hp.own) (hr.mono fun _ => .inl)) hin).mono fun v h' ⟨r', own', G', Os', ⟨g1, g2⟩, g3, g4⟩ => ?_
  subst g1; subst g2
  have hst : Stp ([] : List Nat) h h' := ⟨g4.fp.size, fun b hb _ => g4.fp.same b (fun ⟨O, hO, _⟩ => by cases hO) hb⟩
  have hx : ∀ S, FPx S h h' := fun S => ⟨hst.size, fun b _ hb => hst.same b hb (by simp)⟩
  have hs := hp.fp.size
  have hs' := hst.size
  refine ⟨.inr hst, r', o, G, Os, hm, hf.h _ _ _ _ _ g3, ⟨OwnL.stp (fun O _ => hx _) hp.own, fun b hb => ⟨by have := (hp.g b hb).1; omega, (hp.g b hb).2⟩, hp.g0, fun O hO b hb => ⟨by have := (hp.o O hO b hb).1; omega, (hp.o O hO b hb).2⟩, hp.d, ⟨by omega, fun b hb hl => ?_⟩⟩, hx _, fun _ h => h⟩
  rw [hst.same b (by omega) (by simp)]
  exact hp.fp.same b hb hl
end Go.CF
