/- Part 9 of the ground of this proof: what its texts say of the model, the program and the plain data; conditions: those that are named. -/
import Derived.Shelf.Slices.In.SortNone
import Derived.Test.YtpgpdmmobblffaaGreatP08
namespace Go.Proofs.YtpgpdmmobblffaaGreat
open Go Go.CF
set_option maxRecDepth 20000
instance {v : Value} {sz j r : Nat} : OneA (.oe v sz j r) := ⟨by rintro h G u ⟨b, o, len, cap, _, rfl⟩; rfl⟩
def usF (m : ModS) (e : EvS) : List UpS := match m.acts[e.action.toNat]? with
  | some a => a.eff.updates
  | none => []
noncomputable def cellsF (ts : List TblS) (l : List MgS) (us : List UpS) (e : EvS) : List (Int × MgS) := (List.range l.length).map fun (i : Nat) => match ts[i]?, l[i]? with
  | some t, some g => cellF e t (updF us i) g
  | _, _ => (0, ⟨false, false, []⟩)
theorem cellsF_at {ts : List TblS} {l : List MgS} {us : List UpS} {e : EvS} {i : Nat} {t : TblS} {g : MgS} (ht : ts[i]? = some t) (hg : l[i]? = some g) : (cellsF ts l us e)[i]? = some (cellF e t (updF us i) g) := by
  have hi := (List.getElem?_eq_some_iff.1 hg).1
  rw [cellsF, List.getElem?_map, List.getElem?_range hi, Option.map_some, ht, hg]
theorem cellsF_len {ts : List TblS} {l : List MgS} {us : List UpS} {e : EvS} : (cellsF ts l us e).length = l.length := by simp [cellsF]
noncomputable def gatherF (C : List (Int × MgS)) : Int × List MgS := match C.find? fun p => decide (p.1 ≠ 0 ∧ p.1 ≠ 8) with
  | some p => (p.1, [])
  | none => if ∃ p ∈ C, p.1 = 8 then (8, []) else (0, C.map (·.2))
noncomputable def applyF (m : ModS) (l : List MgS) (e : EvS) : Int × List MgS :=
  if ¬ (ValL (mrgF m) l ∧ EvV m (e.past.length : Nat) e) then (1, [])
  else if e.kind ≠ 0 then (0, l)
  else gatherF (cellsF (mrgF m) l (usF m e) e)
theorem updT_succ {us : List UpS} {i : Nat} {u : UpS} (h : us[i]? = some u) : updT (us.take (i + 1)) = updL (updT (us.take i)) [u.2.1] u := by
  rw [List.take_add_one, h, updT, List.foldl_append]; rfl
theorem gather_bad {C : List (Int × MgS)} {i : Nat} {q : Int × MgS} (hq : C[i]? = some q) (h1 : ∀ p ∈ C.take i, p.1 = 0 ∨ p.1 = 8) (h2 : q.1 ≠ 0) (h3 : q.1 ≠ 8) : gatherF C = (q.1, []) := by
  have hf : C.find? (fun p => decide (p.1 ≠ 0 ∧ p.1 ≠ 8)) = some q := find_at hq (by simp [h2, h3]) fun j y hj hy => by
    have := h1 y (List.mem_of_getElem? (i := j) (by rw [List.getElem?_take, if_pos hj]; exact hy))
    rcases this with h | h <;> simp [h]
  rw [gatherF, hf]
theorem gather_end {C : List (Int × MgS)} (h1 : ∀ p ∈ C, p.1 = 0 ∨ p.1 = 8) : gatherF C = if ∃ p ∈ C, p.1 = 8 then (8, []) else (0, C.map (·.2)) := by
  have hf : C.find? (fun p => decide (p.1 ≠ 0 ∧ p.1 ≠ 8)) = none := List.find?_eq_none.2 fun p hp => by
    rcases h1 p hp with h | h <;> simp [h]
  rw [gatherF, hf]
theorem cellF_none {e : EvS} {t : TblS} {u : UpS} {g : MgS} (h : lookL rulesL [t.kind, u.1] = none) : cellF e t (some u) g = (0, g) := by
  have no : ∀ a b : Int, t.kind = a ∧ u.1 = b → lookL rulesL [a, b] = none := fun a b ⟨h1, h2⟩ => by rw [← h1, ← h2]; exact h
  have n1 : ¬ (t.kind = 2 ∧ u.1 = 0) := fun h9 => absurd (no _ _ h9) (by decide)
  have n2 : ¬ (t.kind = 3 ∧ u.1 = 1) := fun h9 => absurd (no _ _ h9) (by decide)
  have n3 : ¬ (t.kind = 2 ∧ u.1 = 1) := fun h9 => absurd (no _ _ h9) (by decide)
  have n4 : ¬ (t.kind = 3 ∧ u.1 = 0) := fun h9 => absurd (no _ _ h9) (by decide)
  have n5 : ¬ (t.kind = 4 ∧ u.1 = 2) := fun h9 => absurd (no _ _ h9) (by decide)
  have n6 : ¬ (t.kind = 5 ∧ u.1 = 2) := fun h9 => absurd (no _ _ h9) (by decide)
  simp only [cellF, n1, n2, n3, n4, n5, n6, or_self, if_false]
/-- A list, or an error. -/
def ApK (q : Int × List MgS) (r : AV) (own : List Res) : Prop :=
  (∃ v L, q.1 = 0 ∧ r = .tup [.ow v, it 0] ∧ own = outR v L ∧ L.map MgE.g = q.2) ∨ (q.1 ≠ 0 ∧ r = .tup [.val (.slice none 0 0), it q.1] ∧ own = [])
set_option maxHeartbeats 4000000 in
theorem apply_a (m : ModS) (l : List MgS) (e : EvS) (hm : MOK m) : CallA Tryz.prog 12 [mdl m, mgs l, evA' e] [] (ApK (applyF m l e)) := by
  have hva := validM_p m l hm.lay
  have hev := evalid_p m (e.past.length : Nat) e
  by_cases hv : ValL (mrgF m) l ∧ EvV m (e.past.length : Nat) e
  rotate_left
  · have hF : applyF m l e = (1, []) := if_pos hv
    rw [hF]
    refine CallA.of pg ord12 Tryz.func12 rfl Tryz.ntmps12 Tryz.results12 rfl fun h0 G0 O0 => ?_
    by_cases h1 : ValL (mrgF m) l
    · have h2 : ¬ EvV m (e.past.length : Nat) e := fun h => hv ⟨h1, h⟩
      repeat' (first | refine Sp.h ?_ | refine Lk.r rfl ?_ | refine Rf.mk rfl ?_ | (apply Bd.t; (focus (first | assumption | omega | rfl))) | (apply Bd.f; (focus (first | assumption | omega | exact Bool.false_ne_true))) | (refine Im.mk ?_; intro _) | (refine All.mk ?_; intro _) | (apply TkB.r; (focus (repeat (first | exact Take.here | apply Take.there)))) | refine Ch.l ⟨rfl, rfl⟩ ?_ | (apply Nm.r; (focus repeat (first | apply LN.cons | exact LN.nil))) | fail | (apply Cl.p (hva); (focus repeat' (first | exact Lend.nil | apply Lend.keep | fail))) | (apply Cl.p (hev); (focus repeat' (first | exact Lend.nil | apply Lend.keep | fail))))
      exact ⟨_, _, .tup (.same (.same (.nil (by (repeat (first | exact Subl.nil | refine Subl.cons (by (repeat (first | exact Take.here | apply Take.there))) ?_)))))), .inr ⟨by decide, rfl, rfl⟩⟩
    · repeat' (first | refine Sp.h ?_ | refine Lk.r rfl ?_ | refine Rf.mk rfl ?_ | (apply Bd.f; (focus (first | assumption | omega | exact Bool.false_ne_true))) | (refine All.mk ?_; intro _) | (apply TkB.r; (focus (repeat (first | exact Take.here | apply Take.there)))) | refine Ch.l ⟨rfl, rfl⟩ ?_ | (apply Nm.r; (focus repeat (first | apply LN.cons | exact LN.nil))) | fail | (apply Cl.p (hva); (focus repeat' (first | exact Lend.nil | apply Lend.keep | fail))) | (apply Cl.p (hev); (focus repeat' (first | exact Lend.nil | apply Lend.keep | fail))))
      exact ⟨_, _, .tup (.same (.same (.nil (by (repeat (first | exact Subl.nil | refine Subl.cons (by (repeat (first | exact Take.here | apply Take.there))) ?_)))))), .inr ⟨by decide, rfl, rfl⟩⟩
  obtain ⟨h1, h2⟩ := hv
  have hl : l.length ≤ 20 := by have := h1.1; have := hm.mrg; omega
  have hg : ∀ (i : Nat) g, l[i]? = some g → ∃ t, (mrgF m)[i]? = some t ∧ ValG t g := fun i g hi => by
    obtain ⟨t, ht⟩ := get_of (l := mrgF m) (i := i) (by have := h1.1; have := (List.getElem?_eq_some_iff.1 hi).1; omega)
    exact ⟨t, ht, h1.2 i t g ht hi⟩
  have hcl := clone34_a l (by omega) (fun g hgm => by
    obtain ⟨i, hi⟩ := List.getElem?_of_mem hgm
    obtain ⟨t, _, hv⟩ := hg i g hi
    have := hv.1.2.2.2
    omega)
  have hce := cells_p m hm.lay
  have hru := rules_a
  by_cases hk : e.kind = 0
  rotate_left
  · have hF : applyF m l e = (0, l) := by rw [applyF, if_neg (fun h => h ⟨h1, h2⟩), if_pos hk]
    rw [hF]
    refine CallA.of pg ord12 Tryz.func12 rfl Tryz.ntmps12 Tryz.results12 rfl fun h0 G0 O0 => ?_
    repeat' (first | refine Sp.h ?_ | refine Lk.r rfl ?_ | refine Rf.mk rfl ?_ | (apply Bd.t; (focus (first | assumption | omega | rfl))) | (refine Im.mk ?_; intro _) | (refine All.mk ?_; intro _) | (apply TkB.r; (focus (repeat (first | exact Take.here | apply Take.there)))) | refine Ch.l ⟨rfl, rfl⟩ ?_ | fail | (apply Cl.p (hva); (focus repeat' (first | exact Lend.nil | apply Lend.keep | fail))) | (apply Cl.p (hev); (focus repeat' (first | exact Lend.nil | apply Lend.keep | fail))))
    (apply Cl.use (hcl); (focus repeat' (first | exact Lend.nil | apply Lend.keep | fail)); (focus (repeat (first | exact Takes.nil | (apply Takes.cons; (focus (repeat (first | exact Take.here | apply Take.there))))))); (focus rfl))
    rintro _ _ ⟨v, L, rfl, hL, rfl⟩
    repeat' (first | refine Sp.h ?_ | refine Lk.r rfl ?_ | refine Rf.mk rfl ?_ | (apply Bd.f; (focus (first | assumption | omega | exact Bool.false_ne_true))) | (apply TkB.r; (focus (repeat (first | exact Take.here | apply Take.there)))) | (apply Nm.r; (focus repeat (first | apply LN.cons | exact LN.nil))) | fail)
    exact ⟨_, _, .tup (.same (.same (.nil (by (repeat (first | exact Subl.nil | refine Subl.cons (by (repeat (first | exact Take.here | apply Take.there))) ?_)))))), .inl ⟨v, L, rfl, rfl, rfl, hL⟩⟩
  have hF : applyF m l e = gatherF (cellsF (mrgF m) l (usF m e) e) := by rw [applyF, if_neg (fun h => h ⟨h1, h2⟩), if_neg (fun h => h hk)]
  rw [hF]
  have ha1 : 0 ≤ e.action := by
    have h9 := h2.1.2.2.2.2.2
    simp only [KindOK, Sub0, Btw] at h9
    omega
  have ha2 := h2.2.2 hk
  obtain ⟨a, ha⟩ := get_of (l := m.acts) (i := e.action.toNat) (by omega)
  obtain ⟨n, hn⟩ : ∃ n : Nat, e.action = n := ⟨e.action.toNat, by omega⟩
  have hus : usF m e = a.eff.updates := by rw [usF, ha]
  rw [hn] at ha
  rw [hus]
  have ha3 : m.acts[n]? = some a := by simpa using ha
  refine CallA.of pg ord12 Tryz.func12 rfl Tryz.ntmps12 Tryz.results12 rfl fun h0 G0 O0 => ?_
  repeat' (first | refine Sp.h ?_ | refine Lk.r rfl ?_ | refine Rf.mk rfl ?_ | (apply Bd.t; (focus (first | assumption | omega | rfl))) | (refine Im.mk ?_; intro _) | (refine All.mk ?_; intro _) | (apply TkB.r; (focus (repeat (first | exact Take.here | apply Take.there)))) | refine Ch.l ⟨rfl, rfl⟩ ?_ | fail | (apply Cl.p (hva); (focus repeat' (first | exact Lend.nil | apply Lend.keep | fail))) | (apply Cl.p (hev); (focus repeat' (first | exact Lend.nil | apply Lend.keep | fail))))
  (apply Cl.use (hcl); (focus repeat' (first | exact Lend.nil | apply Lend.keep | fail)); (focus (repeat (first | exact Takes.nil | (apply Takes.cons; (focus (repeat (first | exact Take.here | apply Take.there))))))); (focus rfl))
  rintro _ _ ⟨v, L0, rfl, hL, rfl⟩
  repeat' (first | refine Sp.h ?_ | refine Lk.r rfl ?_ | refine Rf.mk rfl ?_ | (apply Bd.t; (focus (first | assumption | omega | rfl))) | (apply TkB.r; (focus (repeat (first | exact Take.here | apply Take.there)))) | refine Ch.l ⟨rfl, rfl⟩ ?_ | fail | (apply Cl.p (hce); (focus repeat' (first | exact Lend.nil | apply Lend.keep | fail))))
  (apply Cl.use (hru); (focus repeat' (first | exact Lend.nil | fail)); (focus (repeat (first | exact Takes.nil | (apply Takes.cons; (focus (repeat (first | exact Take.here | apply Take.there))))))); (focus rfl))
  rintro _ _ ⟨br, kvs, rfl, rfl, hlk⟩
  repeat' (first | refine Sp.h ?_ | refine Lk.r rfl ?_ | refine Rf.mk rfl ?_ | fail)
  refine MkM.r (fun u : UpS => AV.agg (updC u)) ?_
  repeat' (first | refine Sp.h ?_ | refine Lk.r rfl ?_ | refine Rf.mk rfl ?_ | (refine Im.mk ?_; intro _) | (refine All.mk ?_; intro _) | (apply TkB.r; (focus (repeat (first | exact Take.here | apply Take.there)))) | (apply Ix.r; (focus assumption); (focus omega)) | fail)
  refine CA.loop (fun i : Nat => ⟨[(5, pm _), (8, .ow v), (9, tbls (mrgF m)), (10, .val (.map (some br))), (11, .val (.map (some _))), (12, bl false), (53, .sl 3 a.eff.updates updC), (54, it (a.eff.updates.length : Nat)), (55, it i)],
      [arrR v 44 3 L0 mgeC, bunR (L0.map mgeR), mapR Tryz.prog br 108 kvs fnV, mapR Tryz.prog _ 3 (updT (a.eff.updates.take i)) (fun u : UpS => AV.agg (updC u)), blkR _ 37 (evC e)]⟩)
    (fun i => i ≤ a.eff.updates.length) (fun i => a.eff.updates.length - i) 0 ⟨by (repeat (first | exact trivial | refine ⟨rfl, ?_⟩)), by (repeat (first | exact Subl.nil | refine Subl.cons (by (repeat (first | exact Take.here | apply Take.there))) ?_))⟩ (Nat.zero_le _) ?_
  intro i hi
  by_cases hin : i < a.eff.updates.length
  · obtain ⟨u, hu⟩ := get_of hin
    have hsu := updT_succ hu
    repeat' (first | refine Sp.h ?_ | refine Lk.r rfl ?_ | refine Rf.mk rfl ?_ | (apply Bd.t; (focus (first | assumption | omega | rfl))) | (refine All.mk ?_; intro _) | (apply TkB.r; (focus (repeat (first | exact Take.here | apply Take.there)))) | (apply Ix.q; (focus exact rfl); (focus assumption)) | refine Ch.l ⟨rfl, rfl⟩ ?_ | (apply SetAsk.r; (focus (repeat (first | exact SetAs.z | (apply SetAs.c; (focus (repeat (first | assumption | exact SetA.z | apply SetA.s)))))))) | (apply Nm.r; (focus repeat (first | apply LN.cons | exact LN.nil))) | (apply Kf.mk; (focus kernel_rfl)) | (apply TkM.r; (focus (repeat (first | exact Take.here | apply Take.there)))) | refine UpV.r rfl ?_ | (apply Ov.n; (focus first | omega | (simp <;> omega))) | fail)
    rw [← hsu]
    exact PA.lp (i + 1) ⟨by (repeat (first | exact trivial | refine ⟨rfl, ?_⟩)), by (repeat (first | exact Subl.nil | refine Subl.cons (by (repeat (first | exact Take.here | apply Take.there))) ?_))⟩ ⟨hin, by omega⟩
  · have hie : i = a.eff.updates.length := by omega
    subst hie
    rw [List.take_length]
    have hlen : (mrgF m).length = l.length := h1.1
    obtain ⟨C, hC⟩ : ∃ C, C = cellsF (mrgF m) l a.eff.updates e := ⟨_, rfl⟩
    rw [← hC]
    (repeat' (first | (show CA _ _ (Code.region 13 _ _) _ _; apply Stopped.out) | refine Sp.h ?_ | refine Lk.r rfl ?_ | refine Rf.mk rfl ?_ | (apply Bd.f; (focus (first | assumption | omega | exact Bool.false_ne_true))) | fail)); any_goals apply Stopped.mk
    refine CA.sub ⟨[(5, pm _), (8, .ow v), (9, tbls (mrgF m)), (10, .val (.map (some br))), (11, .val (.map (some _))), (12, bl false)],
      [arrR v 44 3 L0 mgeC, bunR (L0.map mgeR), mapR Tryz.prog br 108 kvs fnV, mapR Tryz.prog _ 3 (updT a.eff.updates) (fun u : UpS => AV.agg (updC u)), blkR _ 37 (evC e)]⟩ ⟨by (repeat (first | exact trivial | refine ⟨rfl, ?_⟩)), by (repeat (first | exact Subl.nil | refine Subl.cons (by (repeat (first | exact Take.here | apply Take.there))) ?_))⟩ ?_
    repeat' (first | refine Sp.h ?_ | refine Lk.r rfl ?_ | refine Rf.mk rfl ?_ | (refine Im.mk ?_; intro _) | fail)
    rename_i b5 _ bu _ _
    refine CA.loop (fun x : Nat × List MgE × Bool => ⟨[(5, pm b5), (8, .ow v), (10, .val (.map (some br))), (11, .val (.map (some bu))), (12, bl x.2.2), (64, tbls (mrgF m)), (65, it ((mrgF m).length : Nat)), (66, it x.1)],
        [arrR v 44 3 x.2.1 mgeC, bunR (x.2.1.map mgeR), mapR Tryz.prog br 108 kvs fnV, mapR Tryz.prog bu 3 (updT a.eff.updates) (fun u : UpS => AV.agg (updC u)), blkR b5 37 (evC e)]⟩)
      (fun x => x.1 ≤ l.length ∧ x.2.1.map MgE.g = (C.take x.1).map (·.2) ++ l.drop x.1 ∧ (∀ p ∈ C.take x.1, p.1 = 0 ∨ p.1 = 8) ∧ (x.2.2 = true ↔ ∃ p ∈ C.take x.1, p.1 = 8)) (fun x => l.length - x.1) (0, L0, false) ⟨by (repeat (first | exact trivial | refine ⟨rfl, ?_⟩)), by (repeat (first | exact Subl.nil | refine Subl.cons (by (repeat (first | exact Take.here | apply Take.there))) ?_))⟩ ⟨Nat.zero_le _, by simpa using hL, by simp, by simp⟩ ?_
    rintro ⟨i, D, lg⟩ ⟨g1, g2, g3, g4⟩
    simp only at g1 g2 g3 g4
    simp only
    by_cases hin : i < l.length
    · obtain ⟨g, hgi⟩ := get_of hin
      obtain ⟨t, hti, hvg⟩ := hg i g hgi
      have hq : C[i]? = some (cellF e t (updF a.eff.updates i) g) := by rw [hC]; exact cellsF_at hti hgi
      have htl : (C.take i).length = i := by have := (List.getElem?_eq_some_iff.1 hq).1; simp; omega
      have hDi : (D.map MgE.g)[i]? = some g := by
        rw [g2, List.getElem?_append_right (by simp; omega), List.getElem?_drop, List.length_map, htl]
        simpa using hgi
      obtain ⟨x, hx, hxg⟩ : ∃ x, D[i]? = some x ∧ x.g = g := by
        rw [List.getElem?_map] at hDi
        cases hd : D[i]? with
        | none => rw [hd] at hDi; cases hDi
        | some x => rw [hd] at hDi; exact ⟨x, rfl, by simpa using hDi⟩
      have hDl := (List.getElem?_eq_some_iff.1 hx).1
      have hml : x.marks.length ≤ 1024 := by have := hvg.1.2.2.2; rw [← hxg] at this; exact this
      have hsrt : SrtK x.marks := by have := hvg.srt; rw [← hxg] at this; exact this
      have hreg := register_p t
      have hlu := updT_look a.eff.updates i
      have hbad : ∀ c y, cellF e t (updF a.eff.updates i) g = (c, y) → c ≠ 0 → c ≠ 8 → gatherF C = (c, []) := fun c y h h0 h8 => gather_bad (h ▸ hq) g3 h0 h8
      have hsame : D.set i x = D := by
        apply List.ext_getElem?
        intro j
        rw [List.getElem?_set]
        split
        · rename_i hj; subst hj; first | rw [if_pos hDl, hx] | rw [hx]
        · rfl
      (repeat' (first | (show CA _ _ (Code.block 3 _) _ _; apply Stopped.out) | refine Sp.h ?_ | refine Lk.r rfl ?_ | refine Rf.mk rfl ?_ | (apply Bd.t; (focus (first | assumption | omega | rfl))) | fail)); any_goals apply Stopped.mk
      apply CA.bunTake (l := D) (g := mgeR) (i := i) (x := x)
      focus (repeat (first | exact Take.here | apply Take.there))
      focus exact hx
      refine CA.cut (fun p : List MgE × MgE × Bool => ⟨[(5, pm b5), (8, .ow v), (10, .val (.map (some br))), (11, .val (.map (some bu))), (12, bl p.2.2), (64, tbls (mrgF m)), (65, it ((mrgF m).length : Nat)), (66, it i)],
        [arrR v 44 3 p.1 mgeC, mgeR p.2.1, bunR ((D.eraseIdx i).map mgeR), mapR Tryz.prog br 108 kvs fnV, mapR Tryz.prog bu 3 (updT a.eff.updates) (fun u : UpS => AV.agg (updC u)), blkR b5 37 (evC e)]⟩)
        (fun p => p.1 = D.set i p.2.1 ∧ p.2.1.g = (cellF e t (updF a.eff.updates i) g).2 ∧ ((cellF e t (updF a.eff.updates i) g).1 = 0 ∧ p.2.2 = lg ∨ (cellF e t (updF a.eff.updates i) g).1 = 8 ∧ p.2.2 = true)) ?_ ?_
      · cases hup : updF a.eff.updates i with
        | none =>
          rw [hup] at hlu
          rcases hz : lookL rulesL [t.kind, 0] with _ | f0
          · rw [← hlk] at hz
            repeat' (first | refine Sp.h ?_ | refine Lk.r rfl ?_ | refine Rf.mk rfl ?_ | (apply Bd.f; (focus (first | assumption | omega | exact Bool.false_ne_true))) | (refine All.mk ?_; intro _) | (apply TkB.r; (focus (repeat (first | exact Take.here | apply Take.there)))) | (apply Ix.q; (focus exact rfl); (focus assumption)) | refine Ch.l ⟨rfl, rfl⟩ ?_ | (apply SetAsk.r; (focus (repeat (first | exact SetAs.z | (apply SetAs.c; (focus (repeat (first | assumption | exact SetA.z | apply SetA.s)))))))) | (apply Fk.r; (focus (repeat (first | exact FillA.nil | (apply FillA.agg; (focus rfl); (focus rfl); (focus (repeat (first | exact SetAs.z | (apply SetAs.c; (focus (repeat (first | assumption | exact SetA.z | apply SetA.s)))))))) | (apply FillA.one; (focus rfl); (focus infer_instance); (focus (repeat (first | assumption | exact SetA.z | apply SetA.s)))))))) | (apply Nm.r; (focus repeat (first | apply LN.cons | exact LN.nil))) | (apply Il.r; (focus repeat (first | apply ILit.cons | exact ILit.nil))) | (apply Kf.mk; (focus kernel_rfl)) | (apply TkM.r; (focus (repeat (first | exact Take.here | apply Take.there)))) | (apply Zx.agg; (focus rfl); (focus rfl); (focus repeat (first | apply LN.cons | exact LN.nil))) | apply Zx.one | (apply LkM.n; (focus first | assumption | rfl)) | fail)
            all_goals exact PA.lp (D, x, lg) ⟨by (repeat (first | exact trivial | refine ⟨rfl, ?_⟩)), by (repeat (first | exact Subl.nil | refine Subl.cons (by (repeat (first | exact Take.here | apply Take.there))) ?_))⟩ ⟨hsame.symm, hxg, .inl ⟨rfl, rfl⟩⟩
          · rw [← hlk] at hz
            repeat' (first | refine Sp.h ?_ | refine Lk.r rfl ?_ | refine Rf.mk rfl ?_ | (apply Bd.f; (focus (first | assumption | omega | exact Bool.false_ne_true))) | (refine All.mk ?_; intro _) | (apply TkB.r; (focus (repeat (first | exact Take.here | apply Take.there)))) | (apply Ix.q; (focus exact rfl); (focus assumption)) | refine Ch.l ⟨rfl, rfl⟩ ?_ | (apply SetAsk.r; (focus (repeat (first | exact SetAs.z | (apply SetAs.c; (focus (repeat (first | assumption | exact SetA.z | apply SetA.s)))))))) | (apply Fk.r; (focus (repeat (first | exact FillA.nil | (apply FillA.agg; (focus rfl); (focus rfl); (focus (repeat (first | exact SetAs.z | (apply SetAs.c; (focus (repeat (first | assumption | exact SetA.z | apply SetA.s)))))))) | (apply FillA.one; (focus rfl); (focus infer_instance); (focus (repeat (first | assumption | exact SetA.z | apply SetA.s)))))))) | (apply Nm.r; (focus repeat (first | apply LN.cons | exact LN.nil))) | (apply Il.r; (focus repeat (first | apply ILit.cons | exact ILit.nil))) | (apply Kf.mk; (focus kernel_rfl)) | (apply TkM.r; (focus (repeat (first | exact Take.here | apply Take.there)))) | (apply Zx.agg; (focus rfl); (focus rfl); (focus repeat (first | apply LN.cons | exact LN.nil))) | (apply LkM.s; (focus first | assumption | rfl)) | (apply LkM.n; (focus first | assumption | rfl)) | fail)
            all_goals exact PA.lp (D, x, lg) ⟨by (repeat (first | exact trivial | refine ⟨rfl, ?_⟩)), by (repeat (first | exact Subl.nil | refine Subl.cons (by (repeat (first | exact Take.here | apply Take.there))) ?_))⟩ ⟨hsame.symm, hxg, .inl ⟨rfl, rfl⟩⟩
        | some u =>
          obtain ⟨uk, uc, uv⟩ := u
          rw [hup] at hlu hbad
          rcases rules_cases t.kind uk with hz | ⟨k1, k2, hz⟩ | ⟨k1, k2, hz⟩ | ⟨k1, k2, hz⟩ | ⟨k1, k2, hz⟩ | ⟨k1, k2, hz⟩ | ⟨k1, k2, hz⟩
          · have hcell := cellF_none (e := e) (g := g) (u := (uk, uc, uv)) hz
            rw [← hlk] at hz
            repeat' (first | refine Sp.h ?_ | refine Lk.r rfl ?_ | refine Rf.mk rfl ?_ | (apply Bd.t; (focus (first | assumption | omega | rfl))) | (apply Bd.f; (focus (first | assumption | omega | exact Bool.false_ne_true))) | (refine All.mk ?_; intro _) | (apply TkB.r; (focus (repeat (first | exact Take.here | apply Take.there)))) | (apply Ix.q; (focus exact rfl); (focus assumption)) | refine Ch.l ⟨rfl, rfl⟩ ?_ | (apply SetAsk.r; (focus (repeat (first | exact SetAs.z | (apply SetAs.c; (focus (repeat (first | assumption | exact SetA.z | apply SetA.s)))))))) | (apply Fk.r; (focus (repeat (first | exact FillA.nil | (apply FillA.agg; (focus rfl); (focus rfl); (focus (repeat (first | exact SetAs.z | (apply SetAs.c; (focus (repeat (first | assumption | exact SetA.z | apply SetA.s)))))))) | (apply FillA.one; (focus rfl); (focus infer_instance); (focus (repeat (first | assumption | exact SetA.z | apply SetA.s)))))))) | (apply Nm.r; (focus repeat (first | apply LN.cons | exact LN.nil))) | (apply Il.r; (focus repeat (first | apply ILit.cons | exact ILit.nil))) | (apply Kf.mk; (focus kernel_rfl)) | (apply TkM.r; (focus (repeat (first | exact Take.here | apply Take.there)))) | apply Zx.one | (apply LkM.s; (focus first | assumption | rfl)) | (apply LkM.n; (focus first | assumption | rfl)) | fail)
            all_goals exact PA.lp (D, x, lg) ⟨by (repeat (first | exact trivial | refine ⟨rfl, ?_⟩)), by (repeat (first | exact Subl.nil | refine Subl.cons (by (repeat (first | exact Take.here | apply Take.there))) ?_))⟩ ⟨hsame.symm, by rw [hcell]; exact hxg, .inl ⟨by rw [hcell], rfl⟩⟩
          · have hr : ¬ isReg t.kind := by unfold isReg; omega
            have hcell : cellF e t (some (uk, uc, uv)) g = ((addF x.marks ⟨e.rep, e.num, e.time, 0⟩).1, ⟨x.put, x.drop, (addF x.marks ⟨e.rep, e.num, e.time, 0⟩).2⟩) := by
              rw [← hxg]; simp [cellF, k1, k2, isReg, MgE.g]
            have hcon := add_a v i e ⟨e.rep, e.num, e.time, 0⟩ D x hx (hsrt.mono _) hml
            rw [← hlk] at hz
            repeat' (first | refine Sp.h ?_ | refine Lk.r rfl ?_ | refine Rf.mk rfl ?_ | (apply Bd.t; (focus (first | assumption | omega | rfl))) | (apply Bd.f; (focus (first | assumption | omega | exact Bool.false_ne_true))) | refine OpK.r rfl ?_ | (refine All.mk ?_; intro _) | (apply TkA.r; (focus (repeat (first | exact Take.here | apply Take.there)))) | (apply TkB.r; (focus (repeat (first | exact Take.here | apply Take.there)))) | (apply Ix.q; (focus exact rfl); (focus assumption)) | refine Ch.l ⟨rfl, rfl⟩ ?_ | (apply SetAsk.r; (focus (repeat (first | exact SetAs.z | (apply SetAs.c; (focus (repeat (first | assumption | exact SetA.z | apply SetA.s)))))))) | (apply Fk.r; (focus (repeat (first | exact FillA.nil | (apply FillA.agg; (focus rfl); (focus rfl); (focus (repeat (first | exact SetAs.z | (apply SetAs.c; (focus (repeat (first | assumption | exact SetA.z | apply SetA.s)))))))) | (apply FillA.one; (focus rfl); (focus infer_instance); (focus (repeat (first | assumption | exact SetA.z | apply SetA.s)))))))) | (apply Nm.r; (focus repeat (first | apply LN.cons | exact LN.nil))) | (apply Il.r; (focus repeat (first | apply ILit.cons | exact ILit.nil))) | (apply Kf.mk; (focus kernel_rfl)) | (apply TkM.r; (focus (repeat (first | exact Take.here | apply Take.there)))) | (apply LkM.s; (focus first | assumption | rfl)) | (apply CA.draw; (focus rfl); (focus kernel_rfl); (focus kernel_rfl); (focus repeat' (first | apply ON.one | exact ON.done | exact ON.none | apply ON.alt)); (focus rfl)) | fail | (apply Cl.p (hreg); (focus repeat' (first | exact Lend.nil | apply Lend.keep | fail))))
            (apply Cl.use (hcon); (focus repeat' (first | exact Lend.nil | apply Lend.keep | fail)); (focus (repeat (first | exact Takes.nil | (apply Takes.cons; (focus (repeat (first | exact Take.here | apply Take.there))))))); (focus rfl))
            rintro _ _ ⟨w', rfl, rfl⟩
            repeat' (first | refine Sp.h ?_ | refine Lk.r rfl ?_ | refine Rf.mk rfl ?_ | (refine Bd.mk ?_ ?_ <;> intro _) | (apply Nm.r; (focus repeat (first | apply LN.cons | exact LN.nil))) | fail)
            · exact PA.lp (D.set i ⟨x.put, x.drop, w', (addF x.marks ⟨e.rep, e.num, e.time, 0⟩).2⟩, ⟨x.put, x.drop, w', (addF x.marks ⟨e.rep, e.num, e.time, 0⟩).2⟩, lg) ⟨by (repeat (first | exact trivial | refine ⟨rfl, ?_⟩)), by (repeat (first | exact Subl.nil | refine Subl.cons (by (repeat (first | exact Take.here | apply Take.there))) ?_))⟩ ⟨rfl, by rw [hcell]; rfl, .inl ⟨by rw [hcell]; assumption, rfl⟩⟩
            · exact PA.lp (D.set i ⟨x.put, x.drop, w', (addF x.marks ⟨e.rep, e.num, e.time, 0⟩).2⟩, ⟨x.put, x.drop, w', (addF x.marks ⟨e.rep, e.num, e.time, 0⟩).2⟩, true) ⟨by (repeat (first | exact trivial | refine ⟨rfl, ?_⟩)), by (repeat (first | exact Subl.nil | refine Subl.cons (by (repeat (first | exact Take.here | apply Take.there))) ?_))⟩ ⟨rfl, by rw [hcell]; rfl, .inr ⟨by rw [hcell]; assumption, rfl⟩⟩
            · rw [hbad _ _ hcell (by assumption) (by assumption)]
              exact ⟨_, _, .tup (.same (.same (.nil (by (repeat (first | exact Subl.nil | refine Subl.cons (by (repeat (first | exact Take.here | apply Take.there))) ?_)))))), .inr ⟨by assumption, rfl, rfl⟩⟩
          · have hr : ¬ isReg t.kind := by unfold isReg; omega
            have hcell : cellF e t (some (uk, uc, uv)) g = (0, ⟨false, x.drop, fgK e.past x.marks⟩) := by
              rw [← hxg]; simp [cellF, k1, k2, MgE.g]
            have hcon := drop_a v i e ⟨e.rep, e.num, e.time, 0⟩ D x hx hml
            rw [← hlk] at hz
            repeat' (first | refine Sp.h ?_ | refine Lk.r rfl ?_ | refine Rf.mk rfl ?_ | (apply Bd.t; (focus (first | assumption | omega | rfl))) | (apply Bd.f; (focus (first | assumption | omega | exact Bool.false_ne_true))) | refine OpK.r rfl ?_ | (refine All.mk ?_; intro _) | (apply TkA.r; (focus (repeat (first | exact Take.here | apply Take.there)))) | (apply TkB.r; (focus (repeat (first | exact Take.here | apply Take.there)))) | (apply Ix.q; (focus exact rfl); (focus assumption)) | refine Ch.l ⟨rfl, rfl⟩ ?_ | (apply SetAsk.r; (focus (repeat (first | exact SetAs.z | (apply SetAs.c; (focus (repeat (first | assumption | exact SetA.z | apply SetA.s)))))))) | (apply Fk.r; (focus (repeat (first | exact FillA.nil | (apply FillA.agg; (focus rfl); (focus rfl); (focus (repeat (first | exact SetAs.z | (apply SetAs.c; (focus (repeat (first | assumption | exact SetA.z | apply SetA.s)))))))) | (apply FillA.one; (focus rfl); (focus infer_instance); (focus (repeat (first | assumption | exact SetA.z | apply SetA.s)))))))) | (apply Nm.r; (focus repeat (first | apply LN.cons | exact LN.nil))) | (apply Il.r; (focus repeat (first | apply ILit.cons | exact ILit.nil))) | (apply Kf.mk; (focus kernel_rfl)) | (apply TkM.r; (focus (repeat (first | exact Take.here | apply Take.there)))) | (apply LkM.s; (focus first | assumption | rfl)) | (apply CA.draw; (focus rfl); (focus kernel_rfl); (focus kernel_rfl); (focus repeat' (first | apply ON.one | exact ON.done | exact ON.none | apply ON.alt)); (focus rfl)) | fail | (apply Cl.p (hreg); (focus repeat' (first | exact Lend.nil | apply Lend.keep | fail))))
            (apply Cl.use (hcon); (focus repeat' (first | exact Lend.nil | apply Lend.keep | fail)); (focus (repeat (first | exact Takes.nil | (apply Takes.cons; (focus (repeat (first | exact Take.here | apply Take.there))))))); (focus rfl))
            rintro _ _ ⟨rfl, w', rfl⟩
            repeat' (first | refine Sp.h ?_ | refine Lk.r rfl ?_ | refine Rf.mk rfl ?_ | (apply Bd.t; (focus (first | assumption | omega | rfl))) | fail)
            exact PA.lp (D.set i ⟨false, x.drop, w', fgK e.past x.marks⟩, ⟨false, x.drop, w', fgK e.past x.marks⟩, lg) ⟨by (repeat (first | exact trivial | refine ⟨rfl, ?_⟩)), by (repeat (first | exact Subl.nil | refine Subl.cons (by (repeat (first | exact Take.here | apply Take.there))) ?_))⟩ ⟨rfl, by rw [hcell]; rfl, .inl ⟨by rw [hcell], rfl⟩⟩
          · have hr : ¬ isReg t.kind := by unfold isReg; omega
            have hcell : cellF e t (some (uk, uc, uv)) g = (0, ⟨true, false, fgK e.past x.marks⟩) := by
              rw [← hxg]; simp [cellF, k1, k2, MgE.g]
            have hcon := put_a v i e ⟨e.rep, e.num, e.time, 0⟩ D x hx hml
            rw [← hlk] at hz
            repeat' (first | refine Sp.h ?_ | refine Lk.r rfl ?_ | refine Rf.mk rfl ?_ | (apply Bd.t; (focus (first | assumption | omega | rfl))) | (apply Bd.f; (focus (first | assumption | omega | exact Bool.false_ne_true))) | refine OpK.r rfl ?_ | (refine All.mk ?_; intro _) | (apply TkA.r; (focus (repeat (first | exact Take.here | apply Take.there)))) | (apply TkB.r; (focus (repeat (first | exact Take.here | apply Take.there)))) | (apply Ix.q; (focus exact rfl); (focus assumption)) | refine Ch.l ⟨rfl, rfl⟩ ?_ | (apply SetAsk.r; (focus (repeat (first | exact SetAs.z | (apply SetAs.c; (focus (repeat (first | assumption | exact SetA.z | apply SetA.s)))))))) | (apply Fk.r; (focus (repeat (first | exact FillA.nil | (apply FillA.agg; (focus rfl); (focus rfl); (focus (repeat (first | exact SetAs.z | (apply SetAs.c; (focus (repeat (first | assumption | exact SetA.z | apply SetA.s)))))))) | (apply FillA.one; (focus rfl); (focus infer_instance); (focus (repeat (first | assumption | exact SetA.z | apply SetA.s)))))))) | (apply Nm.r; (focus repeat (first | apply LN.cons | exact LN.nil))) | (apply Il.r; (focus repeat (first | apply ILit.cons | exact ILit.nil))) | (apply Kf.mk; (focus kernel_rfl)) | (apply TkM.r; (focus (repeat (first | exact Take.here | apply Take.there)))) | (apply LkM.s; (focus first | assumption | rfl)) | (apply CA.draw; (focus rfl); (focus kernel_rfl); (focus kernel_rfl); (focus repeat' (first | apply ON.one | exact ON.done | exact ON.none | apply ON.alt)); (focus rfl)) | fail | (apply Cl.p (hreg); (focus repeat' (first | exact Lend.nil | apply Lend.keep | fail))))
            (apply Cl.use (hcon); (focus repeat' (first | exact Lend.nil | apply Lend.keep | fail)); (focus (repeat (first | exact Takes.nil | (apply Takes.cons; (focus (repeat (first | exact Take.here | apply Take.there))))))); (focus rfl))
            rintro _ _ ⟨rfl, w', rfl⟩
            repeat' (first | refine Sp.h ?_ | refine Lk.r rfl ?_ | refine Rf.mk rfl ?_ | (apply Bd.t; (focus (first | assumption | omega | rfl))) | fail)
            exact PA.lp (D.set i ⟨true, false, w', fgK e.past x.marks⟩, ⟨true, false, w', fgK e.past x.marks⟩, lg) ⟨by (repeat (first | exact trivial | refine ⟨rfl, ?_⟩)), by (repeat (first | exact Subl.nil | refine Subl.cons (by (repeat (first | exact Take.here | apply Take.there))) ?_))⟩ ⟨rfl, by rw [hcell]; rfl, .inl ⟨by rw [hcell], rfl⟩⟩
          · have hr : ¬ isReg t.kind := by unfold isReg; omega
            have hcell : cellF e t (some (uk, uc, uv)) g = ((addF x.marks ⟨e.rep, e.num, e.time, 0⟩).1, ⟨x.put, x.drop, (addF x.marks ⟨e.rep, e.num, e.time, 0⟩).2⟩) := by
              rw [← hxg]; simp [cellF, k1, k2, isReg, MgE.g]
            have hcon := add_a v i e ⟨e.rep, e.num, e.time, 0⟩ D x hx (hsrt.mono _) hml
            rw [← hlk] at hz
            repeat' (first | refine Sp.h ?_ | refine Lk.r rfl ?_ | refine Rf.mk rfl ?_ | (apply Bd.t; (focus (first | assumption | omega | rfl))) | (apply Bd.f; (focus (first | assumption | omega | exact Bool.false_ne_true))) | refine OpK.r rfl ?_ | (refine All.mk ?_; intro _) | (apply TkA.r; (focus (repeat (first | exact Take.here | apply Take.there)))) | (apply TkB.r; (focus (repeat (first | exact Take.here | apply Take.there)))) | (apply Ix.q; (focus exact rfl); (focus assumption)) | refine Ch.l ⟨rfl, rfl⟩ ?_ | (apply SetAsk.r; (focus (repeat (first | exact SetAs.z | (apply SetAs.c; (focus (repeat (first | assumption | exact SetA.z | apply SetA.s)))))))) | (apply Fk.r; (focus (repeat (first | exact FillA.nil | (apply FillA.agg; (focus rfl); (focus rfl); (focus (repeat (first | exact SetAs.z | (apply SetAs.c; (focus (repeat (first | assumption | exact SetA.z | apply SetA.s)))))))) | (apply FillA.one; (focus rfl); (focus infer_instance); (focus (repeat (first | assumption | exact SetA.z | apply SetA.s)))))))) | (apply Nm.r; (focus repeat (first | apply LN.cons | exact LN.nil))) | (apply Il.r; (focus repeat (first | apply ILit.cons | exact ILit.nil))) | (apply Kf.mk; (focus kernel_rfl)) | (apply TkM.r; (focus (repeat (first | exact Take.here | apply Take.there)))) | (apply LkM.s; (focus first | assumption | rfl)) | (apply CA.draw; (focus rfl); (focus kernel_rfl); (focus kernel_rfl); (focus repeat' (first | apply ON.one | exact ON.done | exact ON.none | apply ON.alt)); (focus rfl)) | fail | (apply Cl.p (hreg); (focus repeat' (first | exact Lend.nil | apply Lend.keep | fail))))
            (apply Cl.use (hcon); (focus repeat' (first | exact Lend.nil | apply Lend.keep | fail)); (focus (repeat (first | exact Takes.nil | (apply Takes.cons; (focus (repeat (first | exact Take.here | apply Take.there))))))); (focus rfl))
            rintro _ _ ⟨w', rfl, rfl⟩
            repeat' (first | refine Sp.h ?_ | refine Lk.r rfl ?_ | refine Rf.mk rfl ?_ | (refine Bd.mk ?_ ?_ <;> intro _) | (apply Nm.r; (focus repeat (first | apply LN.cons | exact LN.nil))) | fail)
            · exact PA.lp (D.set i ⟨x.put, x.drop, w', (addF x.marks ⟨e.rep, e.num, e.time, 0⟩).2⟩, ⟨x.put, x.drop, w', (addF x.marks ⟨e.rep, e.num, e.time, 0⟩).2⟩, lg) ⟨by (repeat (first | exact trivial | refine ⟨rfl, ?_⟩)), by (repeat (first | exact Subl.nil | refine Subl.cons (by (repeat (first | exact Take.here | apply Take.there))) ?_))⟩ ⟨rfl, by rw [hcell]; rfl, .inl ⟨by rw [hcell]; assumption, rfl⟩⟩
            · exact PA.lp (D.set i ⟨x.put, x.drop, w', (addF x.marks ⟨e.rep, e.num, e.time, 0⟩).2⟩, ⟨x.put, x.drop, w', (addF x.marks ⟨e.rep, e.num, e.time, 0⟩).2⟩, true) ⟨by (repeat (first | exact trivial | refine ⟨rfl, ?_⟩)), by (repeat (first | exact Subl.nil | refine Subl.cons (by (repeat (first | exact Take.here | apply Take.there))) ?_))⟩ ⟨rfl, by rw [hcell]; rfl, .inr ⟨by rw [hcell]; assumption, rfl⟩⟩
            · rw [hbad _ _ hcell (by assumption) (by assumption)]
              exact ⟨_, _, .tup (.same (.same (.nil (by (repeat (first | exact Subl.nil | refine Subl.cons (by (repeat (first | exact Take.here | apply Take.there))) ?_)))))), .inr ⟨by assumption, rfl, rfl⟩⟩
          · have hr : isReg t.kind := by unfold isReg; omega
            have hcell : cellF e t (some (uk, uc, uv)) g = ((lastF x.marks ⟨e.rep, e.num, e.time, uv⟩).1, ⟨x.put, x.drop, (lastF x.marks ⟨e.rep, e.num, e.time, uv⟩).2⟩) := by
              rw [← hxg]; simp [cellF, k1, k2, isReg, MgE.g]
            have hcon := last_a v i e ⟨e.rep, e.num, e.time, uv⟩ D x hx hml
            rw [← hlk] at hz
            repeat' (first | refine Sp.h ?_ | refine Lk.r rfl ?_ | refine Rf.mk rfl ?_ | (apply Bd.t; (focus (first | assumption | omega | rfl))) | refine OpK.r rfl ?_ | (refine All.mk ?_; intro _) | (apply TkA.r; (focus (repeat (first | exact Take.here | apply Take.there)))) | (apply TkB.r; (focus (repeat (first | exact Take.here | apply Take.there)))) | (apply Ix.q; (focus exact rfl); (focus assumption)) | refine Ch.l ⟨rfl, rfl⟩ ?_ | (apply SetAk.r; (focus (repeat (first | assumption | exact SetA.z | apply SetA.s)))) | (apply SetAsk.r; (focus (repeat (first | exact SetAs.z | (apply SetAs.c; (focus (repeat (first | assumption | exact SetA.z | apply SetA.s)))))))) | (apply Fk.r; (focus (repeat (first | exact FillA.nil | (apply FillA.agg; (focus rfl); (focus rfl); (focus (repeat (first | exact SetAs.z | (apply SetAs.c; (focus (repeat (first | assumption | exact SetA.z | apply SetA.s)))))))) | (apply FillA.one; (focus rfl); (focus infer_instance); (focus (repeat (first | assumption | exact SetA.z | apply SetA.s)))))))) | (apply Nm.r; (focus repeat (first | apply LN.cons | exact LN.nil))) | (apply Il.r; (focus repeat (first | apply ILit.cons | exact ILit.nil))) | (apply Kf.mk; (focus kernel_rfl)) | (apply TkM.r; (focus (repeat (first | exact Take.here | apply Take.there)))) | (apply LkM.s; (focus first | assumption | rfl)) | (apply CA.draw; (focus rfl); (focus kernel_rfl); (focus kernel_rfl); (focus repeat' (first | apply ON.one | exact ON.done | exact ON.none | apply ON.alt)); (focus rfl)) | fail | (apply Cl.p (hreg); (focus repeat' (first | exact Lend.nil | apply Lend.keep | fail))))
            (apply Cl.use (hcon); (focus repeat' (first | exact Lend.nil | apply Lend.keep | fail)); (focus (repeat (first | exact Takes.nil | (apply Takes.cons; (focus (repeat (first | exact Take.here | apply Take.there))))))); (focus rfl))
            rintro _ _ ⟨rfl, w', rfl⟩
            repeat' (first | refine Sp.h ?_ | refine Lk.r rfl ?_ | refine Rf.mk rfl ?_ | (refine Bd.mk ?_ ?_ <;> intro _) | (apply Nm.r; (focus repeat (first | apply LN.cons | exact LN.nil))) | fail)
            · exact PA.lp (D.set i ⟨x.put, x.drop, w', (lastF x.marks ⟨e.rep, e.num, e.time, uv⟩).2⟩, ⟨x.put, x.drop, w', (lastF x.marks ⟨e.rep, e.num, e.time, uv⟩).2⟩, lg) ⟨by (repeat (first | exact trivial | refine ⟨rfl, ?_⟩)), by (repeat (first | exact Subl.nil | refine Subl.cons (by (repeat (first | exact Take.here | apply Take.there))) ?_))⟩ ⟨rfl, by rw [hcell]; rfl, .inl ⟨by rw [hcell]; assumption, rfl⟩⟩
            · exact PA.lp (D.set i ⟨x.put, x.drop, w', (lastF x.marks ⟨e.rep, e.num, e.time, uv⟩).2⟩, ⟨x.put, x.drop, w', (lastF x.marks ⟨e.rep, e.num, e.time, uv⟩).2⟩, true) ⟨by (repeat (first | exact trivial | refine ⟨rfl, ?_⟩)), by (repeat (first | exact Subl.nil | refine Subl.cons (by (repeat (first | exact Take.here | apply Take.there))) ?_))⟩ ⟨rfl, by rw [hcell]; rfl, .inr ⟨by rw [hcell]; assumption, rfl⟩⟩
            · rw [hbad _ _ hcell (by assumption) (by assumption)]
              exact ⟨_, _, .tup (.same (.same (.nil (by (repeat (first | exact Subl.nil | refine Subl.cons (by (repeat (first | exact Take.here | apply Take.there))) ?_)))))), .inr ⟨by assumption, rfl, rfl⟩⟩
          · have hr : isReg t.kind := by unfold isReg; omega
            have hcell : cellF e t (some (uk, uc, uv)) g = ((addF (fgK e.past x.marks) ⟨e.rep, e.num, e.time, uv⟩).1, ⟨x.put, x.drop, (addF (fgK e.past x.marks) ⟨e.rep, e.num, e.time, uv⟩).2⟩) := by
              rw [← hxg]; simp [cellF, k1, k2, isReg, MgE.g]
            have hcon := multi_a v i e ⟨e.rep, e.num, e.time, uv⟩ D x hx hml ((hsrt.filter _).mono _)
            rw [← hlk] at hz
            repeat' (first | refine Sp.h ?_ | refine Lk.r rfl ?_ | refine Rf.mk rfl ?_ | (apply Bd.t; (focus (first | assumption | omega | rfl))) | refine OpK.r rfl ?_ | (refine All.mk ?_; intro _) | (apply TkA.r; (focus (repeat (first | exact Take.here | apply Take.there)))) | (apply TkB.r; (focus (repeat (first | exact Take.here | apply Take.there)))) | (apply Ix.q; (focus exact rfl); (focus assumption)) | refine Ch.l ⟨rfl, rfl⟩ ?_ | (apply SetAk.r; (focus (repeat (first | assumption | exact SetA.z | apply SetA.s)))) | (apply SetAsk.r; (focus (repeat (first | exact SetAs.z | (apply SetAs.c; (focus (repeat (first | assumption | exact SetA.z | apply SetA.s)))))))) | (apply Fk.r; (focus (repeat (first | exact FillA.nil | (apply FillA.agg; (focus rfl); (focus rfl); (focus (repeat (first | exact SetAs.z | (apply SetAs.c; (focus (repeat (first | assumption | exact SetA.z | apply SetA.s)))))))) | (apply FillA.one; (focus rfl); (focus infer_instance); (focus (repeat (first | assumption | exact SetA.z | apply SetA.s)))))))) | (apply Nm.r; (focus repeat (first | apply LN.cons | exact LN.nil))) | (apply Il.r; (focus repeat (first | apply ILit.cons | exact ILit.nil))) | (apply Kf.mk; (focus kernel_rfl)) | (apply TkM.r; (focus (repeat (first | exact Take.here | apply Take.there)))) | (apply LkM.s; (focus first | assumption | rfl)) | (apply CA.draw; (focus rfl); (focus kernel_rfl); (focus kernel_rfl); (focus repeat' (first | apply ON.one | exact ON.done | exact ON.none | apply ON.alt)); (focus rfl)) | fail | (apply Cl.p (hreg); (focus repeat' (first | exact Lend.nil | apply Lend.keep | fail))))
            (apply Cl.use (hcon); (focus repeat' (first | exact Lend.nil | apply Lend.keep | fail)); (focus (repeat (first | exact Takes.nil | (apply Takes.cons; (focus (repeat (first | exact Take.here | apply Take.there))))))); (focus rfl))
            rintro _ _ ⟨rfl, w', rfl⟩
            repeat' (first | refine Sp.h ?_ | refine Lk.r rfl ?_ | refine Rf.mk rfl ?_ | (refine Bd.mk ?_ ?_ <;> intro _) | (apply Nm.r; (focus repeat (first | apply LN.cons | exact LN.nil))) | fail)
            · exact PA.lp (D.set i ⟨x.put, x.drop, w', (addF (fgK e.past x.marks) ⟨e.rep, e.num, e.time, uv⟩).2⟩, ⟨x.put, x.drop, w', (addF (fgK e.past x.marks) ⟨e.rep, e.num, e.time, uv⟩).2⟩, lg) ⟨by (repeat (first | exact trivial | refine ⟨rfl, ?_⟩)), by (repeat (first | exact Subl.nil | refine Subl.cons (by (repeat (first | exact Take.here | apply Take.there))) ?_))⟩ ⟨rfl, by rw [hcell]; rfl, .inl ⟨by rw [hcell]; assumption, rfl⟩⟩
            · exact PA.lp (D.set i ⟨x.put, x.drop, w', (addF (fgK e.past x.marks) ⟨e.rep, e.num, e.time, uv⟩).2⟩, ⟨x.put, x.drop, w', (addF (fgK e.past x.marks) ⟨e.rep, e.num, e.time, uv⟩).2⟩, true) ⟨by (repeat (first | exact trivial | refine ⟨rfl, ?_⟩)), by (repeat (first | exact Subl.nil | refine Subl.cons (by (repeat (first | exact Take.here | apply Take.there))) ?_))⟩ ⟨rfl, by rw [hcell]; rfl, .inr ⟨by rw [hcell]; assumption, rfl⟩⟩
            · rw [hbad _ _ hcell (by assumption) (by assumption)]
              exact ⟨_, _, .tup (.same (.same (.nil (by (repeat (first | exact Subl.nil | refine Subl.cons (by (repeat (first | exact Take.here | apply Take.there))) ?_)))))), .inr ⟨by assumption, rfl, rfl⟩⟩
      · rintro ⟨D', x', lg'⟩ ⟨hD', hx', hc⟩
        simp only at hD' hx' hc
        subst hD'
        simp only
        have htk : C.take (i + 1) = C.take i ++ [cellF e t (updF a.eff.updates i) g] := by rw [List.take_add_one, hq]; rfl
        have hdr : l.drop i = g :: l.drop (i + 1) := by
          have h9 := List.drop_eq_getElem_cons hin
          rw [(List.getElem?_eq_some_iff.1 hgi).2] at h9
          exact h9
        have hA : (D.set i x').map MgE.g = (C.take (i + 1)).map (·.2) ++ l.drop (i + 1) := by
          rw [List.map_set, g2, hx', hdr, List.set_append, if_neg (by rw [List.length_map, htl]; omega), List.length_map, htl, Nat.sub_self, List.set_cons_zero, htk]
          simp
        have hB : ∀ p ∈ C.take (i + 1), p.1 = 0 ∨ p.1 = 8 := fun p hp => by
          rw [htk] at hp
          rcases List.mem_append.1 hp with h9 | h9
          · exact g3 p h9
          · rw [List.mem_singleton.1 h9]
            exact hc.imp (·.1) (·.1)
        have hE : lg' = true ↔ ∃ p ∈ C.take (i + 1), p.1 = 8 := by
          rw [htk]
          rcases hc with ⟨c1, rfl⟩ | ⟨c1, rfl⟩
          · rw [g4]
            constructor
            · rintro ⟨p, hp, h8⟩
              exact ⟨p, by simp [hp], h8⟩
            · rintro ⟨p, hp, h8⟩
              rcases List.mem_append.1 hp with h9 | h9
              · exact ⟨p, h9, h8⟩
              · rw [List.mem_singleton.1 h9, c1] at h8; cases h8
          · exact ⟨fun _ => ⟨_, by simp, c1⟩, fun _ => rfl⟩
        (repeat' (first | (show CA _ _ (Code.region 28 _ _) _ _; apply Stopped.out) | refine Sp.h ?_ | fail)); any_goals apply Stopped.mk
        apply CA.bunPut (l := D) (g := mgeR) (i := i) (x := x')
        focus (repeat (first | exact Take.here | apply Take.there))
        focus (repeat (first | exact Take.here | apply Take.there))
        focus exact hDl
        repeat' (first | refine Sp.h ?_ | refine Lk.r rfl ?_ | refine Rf.mk rfl ?_ | (apply Ov.n; (focus first | omega | (simp <;> omega))) | fail)
        exact PA.lp (i + 1, D.set i x', lg') ⟨by (repeat (first | exact trivial | refine ⟨rfl, ?_⟩)), by (repeat (first | exact Subl.nil | refine Subl.cons (by (repeat (first | exact Take.here | apply Take.there))) ?_))⟩ ⟨⟨hin, hA, hB, hE⟩, by simp only; omega⟩
    · have hie : i = l.length := by omega
      subst hie
      have hCl : C.length = l.length := by rw [hC]; exact cellsF_len
      rw [← hCl, List.take_length] at g3 g4
      rw [← hCl, List.take_length, hCl, List.drop_length, List.append_nil] at g2
      cases lg with
      | true =>
        have hG : gatherF C = (8, []) := by rw [gather_end g3, if_pos (g4.1 rfl)]
        rw [hG]
        repeat' (first | refine Sp.h ?_ | refine Lk.r rfl ?_ | refine Rf.mk rfl ?_ | (apply Bd.f; (focus (first | assumption | omega | exact Bool.false_ne_true))) | (apply Nm.r; (focus repeat (first | apply LN.cons | exact LN.nil))) | fail)
        exact ⟨_, _, .tup (.same (.same (.nil (by (repeat (first | exact Subl.nil | refine Subl.cons (by (repeat (first | exact Take.here | apply Take.there))) ?_)))))), .inr ⟨by decide, rfl, rfl⟩⟩
      | false =>
        have hG : gatherF C = (0, C.map (·.2)) := by rw [gather_end g3, if_neg (fun h9 => by have := g4.2 h9; cases this)]
        rw [hG]
        repeat' (first | refine Sp.h ?_ | refine Lk.r rfl ?_ | refine Rf.mk rfl ?_ | (apply Bd.f; (focus (first | assumption | omega | exact Bool.false_ne_true))) | (apply Nm.r; (focus repeat (first | apply LN.cons | exact LN.nil))) | fail)
        exact ⟨_, _, .tup (.same (.same (.nil (by (repeat (first | exact Subl.nil | refine Subl.cons (by (repeat (first | exact Take.here | apply Take.there))) ?_)))))), .inl ⟨v, D, rfl, rfl, rfl, g2⟩⟩
end Go.Proofs.YtpgpdmmobblffaaGreat
namespace Go.Proofs.YtpgpdmmobblffaaGreat
open Go Go.CF
set_option maxRecDepth 20000
noncomputable instance : DecidableEq MgS := fun _ _ => Classical.propDecidable _
noncomputable instance : DecidableEq MkS := fun _ _ => Classical.propDecidable _
theorem mks_ext {a b : MkS} (h1 : a.rep = b.rep) (h2 : a.num = b.num) (h3 : a.time = b.time) (h4 : a.val = b.val) : a = b := by
  cases a; cases b; simp_all
theorem mgs_ext {a b : MgS} (h1 : a.put = b.put) (h2 : a.drop = b.drop) (h3 : a.marks = b.marks) : a = b := by
  cases a; cases b; simp_all
set_option maxHeartbeats 2000000 in
theorem same34_p (a b : List MgS) : CallP Tryz.prog 13 [mgs a, mgs b] (bl (decide (a = b))) := by
  refine CallA.of pg ord13 Tryz.func13 rfl Tryz.ntmps13 Tryz.results13 rfl fun h0 G0 O0 => ?_
  by_cases hlen : a.length = b.length
  rotate_left
  · repeat' (first | refine Sp.h ?_ | refine Lk.r rfl ?_ | refine Rf.mk rfl ?_ | (apply Bd.f; (focus (first | assumption | omega | exact Bool.false_ne_true))) | (refine Im.mk ?_; intro _) | (apply Nm.r; (focus repeat (first | apply LN.cons | exact LN.nil))) | fail)
    exact Fin.p rfl (vb (decide_eq_false (fun e => hlen (by rw [e]))).symm)
  repeat' (first | refine Sp.h ?_ | refine Lk.r rfl ?_ | refine Rf.mk rfl ?_ | (apply Bd.t; (focus (first | assumption | omega | rfl))) | (refine Im.mk ?_; intro _) | fail)
  refine CA.loop (fun i : Nat => ⟨[(0, mgs a), (1, mgs b), (5, it i)], []⟩) (fun i => i ≤ a.length ∧ a.take i = b.take i) (fun i => a.length - i) 0 ⟨by (repeat (first | exact trivial | refine ⟨rfl, ?_⟩)), by (repeat (first | exact Subl.nil | refine Subl.cons (by (repeat (first | exact Take.here | apply Take.there))) ?_))⟩ ⟨Nat.zero_le _, by simp⟩ ?_
  rintro i ⟨hi, heq⟩
  by_cases hin : i < a.length
  · obtain ⟨x, hx⟩ := get_of hin
    obtain ⟨y, hy⟩ := get_of (l := b) (i := i) (by omega)
    by_cases hp : x.put = y.put
    rotate_left
    · repeat' (first | refine Sp.h ?_ | refine Lk.r rfl ?_ | refine Rf.mk rfl ?_ | (apply Bd.t; (focus (first | assumption | omega | rfl))) | (apply Bd.f; (focus (first | assumption | omega | exact Bool.false_ne_true))) | refine OpK.r rfl ?_ | (refine Im.mk ?_; intro _) | (apply Ix.q; (focus exact rfl); (focus assumption)) | (apply Nm.r; (focus repeat (first | apply LN.cons | exact LN.nil))) | (apply CA.draw; (focus rfl); (focus kernel_rfl); (focus kernel_rfl); (focus repeat' (first | apply ON.one | exact ON.done | exact ON.none | apply ON.alt)); (focus rfl)) | fail)
      all_goals exact Fin.p rfl (vb (decide_eq_false (fun e => hp (by subst e; rw [hx] at hy; cases hy; rfl))).symm)
    by_cases hd : x.drop = y.drop
    rotate_left
    · repeat' (first | refine Sp.h ?_ | refine Lk.r rfl ?_ | refine Rf.mk rfl ?_ | (apply Bd.t; (focus (first | assumption | omega | rfl))) | (apply Bd.f; (focus (first | assumption | omega | exact Bool.false_ne_true))) | refine OpK.r rfl ?_ | (refine Im.mk ?_; intro _) | (apply Ix.q; (focus exact rfl); (focus assumption)) | (apply Nm.r; (focus repeat (first | apply LN.cons | exact LN.nil))) | (apply CA.draw; (focus rfl); (focus kernel_rfl); (focus kernel_rfl); (focus repeat' (first | apply ON.one | exact ON.done | exact ON.none | apply ON.alt)); (focus rfl)) | fail)
      all_goals exact Fin.p rfl (vb (decide_eq_false (fun e => hd (by subst e; rw [hx] at hy; cases hy; rfl))).symm)
    by_cases hm : x.marks.length = y.marks.length
    rotate_left
    · repeat' (first | refine Sp.h ?_ | refine Lk.r rfl ?_ | refine Rf.mk rfl ?_ | (apply Bd.t; (focus (first | assumption | omega | rfl))) | (apply Bd.f; (focus (first | assumption | omega | exact Bool.false_ne_true))) | refine OpK.r rfl ?_ | (refine Im.mk ?_; intro _) | (apply Ix.q; (focus exact rfl); (focus assumption)) | (apply Nm.r; (focus repeat (first | apply LN.cons | exact LN.nil))) | (apply CA.draw; (focus rfl); (focus kernel_rfl); (focus kernel_rfl); (focus repeat' (first | apply ON.one | exact ON.done | exact ON.none | apply ON.alt)); (focus rfl)) | fail)
      all_goals exact Fin.p rfl (vb (decide_eq_false (fun e => hm (by subst e; rw [hx] at hy; cases hy; rfl))).symm)
    repeat' (first | refine Sp.h ?_ | refine Lk.r rfl ?_ | refine Rf.mk rfl ?_ | (apply Bd.t; (focus (first | assumption | omega | rfl))) | refine OpK.r rfl ?_ | (refine Im.mk ?_; intro _) | (apply Ix.q; (focus exact rfl); (focus assumption)) | (apply CA.draw; (focus rfl); (focus kernel_rfl); (focus kernel_rfl); (focus repeat' (first | apply ON.one | exact ON.done | exact ON.none | apply ON.alt)); (focus rfl)) | fail)
    refine CA.loop (fun k : Nat => ⟨[(0, mgs a), (1, mgs b), (5, it i), (6, it k)], []⟩) (fun k => k ≤ x.marks.length ∧ x.marks.take k = y.marks.take k) (fun k => x.marks.length - k) 0 ⟨by (repeat (first | exact trivial | refine ⟨rfl, ?_⟩)), by (repeat (first | exact Subl.nil | refine Subl.cons (by (repeat (first | exact Take.here | apply Take.there))) ?_))⟩ ⟨Nat.zero_le _, by simp⟩ ?_
    rintro k ⟨hk, heq2⟩
    by_cases hkn : k < x.marks.length
    · obtain ⟨u, hu⟩ := get_of hkn
      obtain ⟨w, hw⟩ := get_of (l := y.marks) (i := k) (by omega)
      by_cases huw : u = w
      · have hv : [u.rep, u.num, u.time, u.val] = [w.rep, w.num, w.time, w.val] := by rw [huw]
        repeat' (first | refine Sp.h ?_ | refine Lk.r rfl ?_ | refine Rf.mk rfl ?_ | (apply Bd.t; (focus (first | assumption | omega | rfl))) | refine OpK.r rfl ?_ | (refine Im.mk ?_; intro _) | (apply Ix.q; (focus exact rfl); (focus assumption)) | refine Ch.l ⟨rfl, rfl⟩ ?_ | (apply Il.r; (focus repeat (first | apply ILit.cons | exact ILit.nil))) | (apply Kf.mk; (focus kernel_rfl)) | (apply CA.draw; (focus rfl); (focus kernel_rfl); (focus kernel_rfl); (focus repeat' (first | apply ON.one | exact ON.done | exact ON.none | apply ON.alt)); (focus rfl)) | (apply Ov.n; (focus first | omega | (simp <;> omega))) | fail)
        refine PA.lp (k + 1) ⟨by (repeat (first | exact trivial | refine ⟨rfl, ?_⟩)), by (repeat (first | exact Subl.nil | refine Subl.cons (by (repeat (first | exact Take.here | apply Take.there))) ?_))⟩ ⟨⟨hkn, ?_⟩, by omega⟩
        rw [List.take_add_one, List.take_add_one, hu, hw, heq2, huw]
      · have hv : ¬ [u.rep, u.num, u.time, u.val] = [w.rep, w.num, w.time, w.val] := fun h9 => huw (by simp only [List.cons.injEq, and_true] at h9; exact mks_ext h9.1 h9.2.1 h9.2.2.1 h9.2.2.2)
        repeat' (first | refine Sp.h ?_ | refine Lk.r rfl ?_ | refine Rf.mk rfl ?_ | (apply Bd.t; (focus (first | assumption | omega | rfl))) | (apply Bd.f; (focus (first | assumption | omega | exact Bool.false_ne_true))) | refine OpK.r rfl ?_ | (refine Im.mk ?_; intro _) | (apply Ix.q; (focus exact rfl); (focus assumption)) | refine Ch.l ⟨rfl, rfl⟩ ?_ | (apply Nm.r; (focus repeat (first | apply LN.cons | exact LN.nil))) | (apply Il.r; (focus repeat (first | apply ILit.cons | exact ILit.nil))) | (apply Kf.mk; (focus kernel_rfl)) | (apply CA.draw; (focus rfl); (focus kernel_rfl); (focus kernel_rfl); (focus repeat' (first | apply ON.one | exact ON.done | exact ON.none | apply ON.alt)); (focus rfl)) | fail)
        refine Fin.p rfl (vb (decide_eq_false (fun e9 => huw ?_)).symm)
        subst e9
        rw [hx] at hy
        cases hy
        rw [hu] at hw
        cases hw
        rfl
    · have hke : k = x.marks.length := by omega
      subst hke
      repeat' (first | refine Sp.h ?_ | refine Lk.r rfl ?_ | refine Rf.mk rfl ?_ | (apply Bd.f; (focus (first | assumption | omega | exact Bool.false_ne_true))) | (refine Im.mk ?_; intro _) | (apply Ix.q; (focus exact rfl); (focus assumption)) | (apply Ov.n; (focus first | omega | (simp <;> omega))) | fail)
      refine PA.lp (i + 1) ⟨by (repeat (first | exact trivial | refine ⟨rfl, ?_⟩)), by (repeat (first | exact Subl.nil | refine Subl.cons (by (repeat (first | exact Take.here | apply Take.there))) ?_))⟩ ⟨⟨hin, ?_⟩, by omega⟩
      rw [List.take_length, hm, List.take_length] at heq2
      rw [List.take_add_one, List.take_add_one, hx, hy, heq, mgs_ext hp hd heq2]
  · have hie : i = a.length := by omega
    subst hie
    repeat' (first | refine Sp.h ?_ | refine Lk.r rfl ?_ | refine Rf.mk rfl ?_ | (apply Bd.f; (focus (first | assumption | omega | exact Bool.false_ne_true))) | (refine Im.mk ?_; intro _) | (apply Nm.r; (focus repeat (first | apply LN.cons | exact LN.nil))) | fail)
    refine Fin.p rfl (vb (decide_eq_true ?_).symm)
    rw [List.take_length] at heq
    rw [heq, List.take_of_length_le (by omega)]
theorem listsQ_p (a b : List (List Int)) : CallP Tryz.prog 22 [clks a, clks b] (.val (.bool (decide (a = b)))) := by
  refine CallA.of pg ord22 Tryz.func22 rfl Tryz.ntmps22 Tryz.results22 rfl fun h0 G0 O0 => ?_
  repeat' (first | refine Sp.h ?_ | refine Lk.r rfl ?_ | refine Rf.mk rfl ?_ | (refine Bd.mk ?_ ?_ <;> intro _) | (refine Im.mk ?_; intro _) | (apply Nm.r; (focus repeat (first | apply LN.cons | exact LN.nil))) | fail)
  · refine CA.loop (fun i : Nat => ⟨[(0, clks a), (1, clks b), (5, .val (.int .i64 i))], []⟩) (fun i => i ≤ a.length ∧ a.take i = b.take i) (fun i => a.length - i) 0 ⟨by (repeat (first | exact trivial | refine ⟨rfl, ?_⟩)), by (repeat (first | exact Subl.nil | refine Subl.cons (by (repeat (first | exact Take.here | apply Take.there))) ?_))⟩ ⟨Nat.zero_le _, by simp⟩ ?_
    rintro i ⟨hi, heq⟩
    by_cases hin : i < a.length
    · obtain ⟨x, hx⟩ := get_of hin
      obtain ⟨y, hy⟩ := get_of (l := b) (i := i) (by omega)
      repeat' (first | refine Sp.h ?_ | refine Lk.r rfl ?_ | refine Rf.mk rfl ?_ | (apply Bd.t; (focus (first | assumption | omega | rfl))) | (refine Bd.mk ?_ ?_ <;> intro _) | refine OpK.r rfl ?_ | (refine Im.mk ?_; intro _) | (apply Ix.q; (focus exact rfl); (focus assumption)) | (apply Nm.r; (focus repeat (first | apply LN.cons | exact LN.nil))) | (apply CA.draw; (focus rfl); (focus kernel_rfl); (focus kernel_rfl); (focus repeat' (first | apply ON.one | exact ON.done | exact ON.none | apply ON.alt)); (focus rfl)) | (apply Ov.n; (focus first | omega | (simp <;> omega))) | fail | (apply Cl.p (intsR_p _ _); (focus repeat' (first | exact Lend.nil | apply Lend.keep | fail))))
      · rename_i hxy
        refine PA.lp (i + 1) ⟨by (repeat (first | exact trivial | refine ⟨rfl, ?_⟩)), by (repeat (first | exact Subl.nil | refine Subl.cons (by (repeat (first | exact Take.here | apply Take.there))) ?_))⟩ ⟨⟨hin, ?_⟩, by omega⟩
        rw [List.take_add_one, List.take_add_one, hx, hy, heq, show x = y from hxy]
      · rename_i hxy
        refine Fin.p rfl (vb (decide_eq_false (fun e => hxy ?_)).symm)
        subst e; rw [hx] at hy; cases hy; rfl
    · have : i = a.length := by omega
      subst this
      repeat' (first | refine Sp.h ?_ | refine Lk.r rfl ?_ | refine Rf.mk rfl ?_ | (apply Bd.f; (focus (first | assumption | omega | exact Bool.false_ne_true))) | (refine Im.mk ?_; intro _) | (apply Nm.r; (focus repeat (first | apply LN.cons | exact LN.nil))) | fail)
      refine Fin.p rfl (vb (decide_eq_true ?_).symm)
      rw [List.take_length] at heq
      rw [heq, List.take_of_length_le (by omega)]
  · rename_i h
    exact Fin.p rfl (vb (decide_eq_false (fun e => h (by rw [e]))).symm)
end Go.Proofs.YtpgpdmmobblffaaGreat
namespace Go.CF
open Go
/-- What is one thing is the other one, too. -/
structure ALe (a b : AV) : Prop where
  le : ∀ {h : Heap} {G : Nat → Prop} {v : Value}, a.R h G v → b.R h G v
theorem ALe.refl (a : AV) : ALe a a := ⟨fun h => h⟩
theorem ALe.nil {α : Type} {sz : Nat} {f : α → List AV} : ALe (.val (.slice none 0 0)) (.sl sz [] f) := ⟨fun h => by
  have h : _ = _ := h
  subst h
  exact ⟨by simp, .inl ⟨rfl, none, 0, rfl⟩⟩⟩
inductive RLe : List AV → List AV → Prop where
  | nil : RLe [] []
  | cons {a b : AV} {l m : List AV} : ALe a b → RLe l m → RLe (a :: l) (b :: m)
theorem RLe.rep {h : Heap} {G : Nat → Prop} {l m : List AV} (x : RLe l m) : ∀ {vs : List Value}, RepT h G vs l → RepT h G vs m := by
  induction x with
  | nil => exact fun hr => hr
  | cons ha _ ih =>
    intro vs hr
    match vs, hr with
    | v :: vs, ⟨h1, h2⟩ => exact ⟨ha.le h1, ih h2⟩
theorem ALe.sl {α β : Type} {sz : Nat} {l : List α} {f : α → List AV} {ys : List β} {g : β → List AV} (hl : l.length = ys.length) (hr : ∀ (i : Nat) x y, l[i]? = some x → ys[i]? = some y → RLe (f x) (g y)) : ALe (.sl sz l f) (.sl sz ys g) := ⟨fun {h G v} hv => by
  obtain ⟨h1, ⟨h2, p, cap, h3⟩ | ⟨b, o, cap, rows, h2, h3, h4, h5, h6, h7, h8⟩⟩ := hv
  · subst h2
    exact ⟨by rw [← hl]; exact h1, .inl ⟨List.eq_nil_of_length_eq_zero (by rw [← hl]; rfl), p, cap, h3⟩⟩
  · refine ⟨by rw [← hl]; exact h1, .inr ⟨b, o, cap, rows, by rw [← hl]; exact h2, by rw [← hl]; exact h3, by rw [← hl]; exact h4, h5, h6, h7, ⟨by rw [h8.len, hl], fun i r y g1 g2 => ?_, h8.sz⟩⟩⟩
    have hi := (List.getElem?_eq_some_iff.1 g2).1
    have hx : l[i]? = some (l[i]'(by omega)) := List.getElem?_eq_getElem _
    have g3 := h8.row i r _ g1 hx
    exact ⟨(hr i _ y hx g2).rep g3.t, g3.one⟩⟩
theorem CallA.conv {P : Program} {f : FuncId} {asx : List AV} {own : List Res} {a b : AV} (hab : ALe a b) (h : CallA P f asx own fun q o => q = a ∧ o = []) : CallA P f asx own fun q o => q = b ∧ o = [] :=
  ⟨fun hh G Os vs h1 h2 => (h.run hh G Os vs h1 h2).mono fun v' h' ⟨r, o, G', Os', ⟨e1, e2⟩, g1, g2⟩ => by
    subst e1; subst e2
    exact ⟨_, _, _, _, ⟨rfl, rfl⟩, hab.le g1, g2⟩⟩
section
variable {k : List KI} {e : EA} {o : List Res}
end
end Go.CF
namespace Go.CF
open Go
/-- Values, frozen: lists of one's own at any depth. -/
inductive FX : List Res → List AV → List AV → List Res → Prop where
  | nil {o : List Res} : FX o [] [] o
  | le {o own : List Res} {a b : AV} {l l' : List AV} : ALe a b → FX o l l' own → FX o (a :: l) (b :: l') own
  | agg {o o1 own : List Res} {cs cs' l l' : List AV} : FX o cs cs' o1 → FX o1 l l' own → FX o (.agg cs :: l) (.agg cs' :: l') own
  | tup {o o1 own : List Res} {cs cs' l l' : List AV} : FX o cs cs' o1 → FX o1 l l' own → FX o (.tup cs :: l) (.tup cs' :: l') own
  | unb {o rest own rs : List Res} {l l' : List AV} : Take o (bunR rs) rest → FX (rs ++ rest) l l' own → FX o l l' own
  | sl {o rest o1 own : List Res} {l l' : List AV} {α β : Type} {v : Value} {T sz : Nat} {xs : List α} {f : α → List AV} {ys : List β} {g : β → List AV} :
      Take o (arrR v T sz xs f) rest → xs.length ≤ 9223372036854775807 → FX rest (xs.map fun x => .agg (f x)) (ys.map fun y => .agg (g y)) o1 → FX o1 l l' own → FX o (.ow v :: l) (.sl sz ys g :: l') own
theorem FX.len {o own : List Res} {l l' : List AV} (x : FX o l l' own) : l.length = l'.length := by
  induction x with
  | nil => rfl
  | le _ _ ih => simp [ih]
  | agg _ _ _ ih => simp [ih]
  | tup _ _ _ ih => simp [ih]
  | unb _ _ ih => exact ih
  | sl _ _ _ _ _ ih => simp [ih]
theorem RepLL.aggs {h : Heap} {G : Nat → Prop} {α : Type} {f : α → List AV} : ∀ {rows : List (List Value)} {l : List α}, RepLL h G rows (l.map f) → RepT h G (rows.map fun r => .agg r.toArray) (l.map fun x => .agg (f x))
  | [], [], _ => trivial
  | _ :: _, _ :: _, ⟨h1, h2⟩ => ⟨⟨_, rfl, h1⟩, RepLL.aggs h2⟩
  | [], _ :: _, h => h.elim
  | _ :: _, [], h => h.elim
theorem RepLL.unaggs {h : Heap} {G : Nat → Prop} {α : Type} {f : α → List AV} : ∀ {rows : List (List Value)} {l : List α}, RepT h G (rows.map fun r => .agg r.toArray) (l.map fun x => .agg (f x)) → RepLL h G rows (l.map f)
  | [], [], _ => trivial
  | v :: vs, x :: l, ⟨⟨ws, e, h1⟩, h2⟩ => by
    have e' : v = ws := by
      have := congrArg (fun u => match u with | Value.agg a => a.toList | _ => []) e
      simpa using this
    subst e'
    exact ⟨h1, RepLL.unaggs h2⟩
  | [], _ :: _, h => h.elim
  | _ :: _, [], h => h.elim
theorem FX.rep {h0 : Heap} {G0 O0 : Nat → Prop} {h : Heap} {o own : List Res} {l l' : List AV} (x : FX o l l' own) : ∀ {G : Nat → Prop} {Os : List (Nat → Prop)} {vs : List Value}, HpOK h0 G0 O0 o h G Os → RepT h G vs l → ∃ G' Os', HpOK h0 G0 O0 own h G' Os' ∧ RepT h G' vs l' ∧ ∀ b, G b → G' b := by
  induction x with
  | nil => exact fun {G Os vs} c hr => ⟨G, Os, c, hr, fun _ h => h⟩
  | le ha _ ih =>
    intro G Os vs c hr
    match vs, hr with
    | v :: vs, ⟨r1, r2⟩ =>
      obtain ⟨G', Os', h1, h2, h3⟩ := ih c r2
      exact ⟨G', Os', h1, ⟨AV.mono _ h3 (ha.le r1), h2⟩, h3⟩
  | agg _ _ ih1 ih =>
    intro G Os vs c hr
    match vs, hr with
    | v :: vs, ⟨⟨ws, r1, r3⟩, r2⟩ =>
      obtain ⟨G1, Os1, h1, h2, h3⟩ := ih1 c r3.t
      obtain ⟨G2, Os2, h4, h5, h6⟩ := ih h1 (r2.mono h3)
      exact ⟨G2, Os2, h4, ⟨⟨ws, r1, h2.mono h6, r3.one⟩, h5⟩, fun b hb => h6 b (h3 b hb)⟩
  | tup _ _ ih1 ih =>
    intro G Os vs c hr
    match vs, hr with
    | v :: vs, ⟨⟨ws, r1, r3⟩, r2⟩ =>
      obtain ⟨G1, Os1, h1, h2, h3⟩ := ih1 c r3
      obtain ⟨G2, Os2, h4, h5, h6⟩ := ih h1 (r2.mono h3)
      exact ⟨G2, Os2, h4, ⟨⟨ws, r1, h2.mono h6⟩, h5⟩, fun b hb => h6 b (h3 b hb)⟩
  | unb tk _ ih =>
    intro G Os vs c hr
    obtain ⟨O, os', c2⟩ := c.take tk
    obtain ⟨A, _, g2⟩ := c2.unbun
    exact ih g2 hr
  | sl tk hl hf _ ih1 ih =>
    intro G Os vs c hr
    match vs, hr with
    | v :: vs, ⟨⟨r1, _⟩, r2⟩ =>
      subst r1
      obtain ⟨O, os', c2⟩ := c.take tk
      have hrr := c2.own.1
      have hlen : _ = _ := hf.len
      simp only [List.length_map] at hlen
      obtain ⟨g1, ⟨g2, p, cap, g3⟩ | ⟨b, of, cap, rows, g2, g3, g4, g5, g6, g7, g8⟩⟩ := sl_of_own hrr hl
      · obtain ⟨G1, Os1, h1, _, h3⟩ := ih1 (vs := []) c2.freeze (by rw [g2]; trivial)
        obtain ⟨G2, Os2, h4, h5, h6⟩ := ih h1 (r2.mono fun b hb => h3 b (.inl hb))
        refine ⟨G2, Os2, h4, ⟨⟨by omega, .inl ⟨List.eq_nil_of_length_eq_zero (by rw [← hlen, g2]; rfl), p, cap, g3⟩⟩, h5⟩, fun b hb => h6 b (h3 b (.inl hb))⟩
      · obtain ⟨G1, Os1, h1, h2, h3⟩ := ih1 c2.freeze (RepLL.of g8).aggs
        obtain ⟨G2, Os2, h4, h5, h6⟩ := ih h1 (r2.mono fun b hb => h3 b (.inl hb))
        refine ⟨G2, Os2, h4, ⟨⟨by omega, .inr ⟨b, of, cap, rows, by rw [← hlen]; exact g2, by omega, by omega, h6 _ (h3 _ g5), g6, g7, (RepLL.to (RepLL.unaggs h2) g8.sz).mono h6⟩⟩, h5⟩, fun b hb => h6 b (h3 b (.inl hb))⟩
/-- A result that nobody is to change, whatever it is made of. -/
theorem CallA.fx {P : Program} {f : FuncId} {asx : List AV} {own : List Res} {K : AV → List Res → Prop} {a : AV} (h : CallA P f asx own K) (hK : ∀ r o, K r o → FX o [r] [a] []) : CallA P f asx own fun q o => q = a ∧ o = [] :=
  ⟨fun hh G Os vs h1 h2 => (h.run hh G Os vs h1 h2).mono fun v' h' ⟨r, o, G', Os', hk, g1, g2⟩ => by
    obtain ⟨G2, Os2, k1, k2, k3⟩ := (hK r o hk).rep g2 (vs := [v']) ⟨g1, trivial⟩
    exact ⟨a, [], G2, Os2, ⟨rfl, rfl⟩, k2.1, k1⟩⟩
theorem FX.refl {o : List Res} : ∀ l : List AV, FX o l l o
  | [] => .nil
  | a :: l => .le (ALe.refl a) (FX.refl l)
theorem FX.rows {α β : Type} {r : α → Res} {f : α → List AV} {g : β → List AV} {φ : α → β} {o : List Res} : ∀ L : List α, (∀ x ∈ L, ∀ o', FX (r x :: o') (f x) (g (φ x)) o') → FX (L.map r ++ o) (L.map fun x => .agg (f x)) ((L.map φ).map fun y => .agg (g y)) o
  | [], _ => .nil
  | x :: L, hf => .agg (hf x (by simp) _) (FX.rows L fun y hy => hf y (by simp [hy]))
/-- A value that nobody is to change, whatever it is made of. -/
theorem CA.freezeX {P : Program} {tt : Nat → Option TI} {en : Nat → Bool} {ok : PgOK P tt en} {T0 : Nat → Ord × (Nat → Cls)} {m0 : Nat} {rs : Array ResultVar} {K : AV → List Res → Prop} {h0 : Heap} {G0 O0 : Nat → Prop} {k : List KI} {e : EA} {o : List Res} {y : Code} (t : Tmp) {a b : AV} {rest : List Res} (ht : lookA e t = some a) (x : FX o [a] [b] rest)
    (h : CA ⟨P, tt, en, ok, T0, m0, rs, K, h0, G0, O0, ⟨none⟩⟩ k y ((t, b) :: e) rest) : CA ⟨P, tt, en, ok, T0, m0, rs, K, h0, G0, O0, ⟨none⟩⟩ k y e o := by
  refine ⟨fun env hh G Os cn => ?_⟩
  obtain ⟨w', e1, e2⟩ := cn.env t _ ht
  obtain ⟨G', Os3, k1, k2, k3⟩ := x.rep cn.hp (vs := [w']) ⟨e2, trivial⟩
  have c4 : Con ⟨P, tt, en, ok, T0, m0, rs, K, h0, G0, O0, ⟨none⟩⟩ ⟨e, rest⟩ env hh G' Os3 := ⟨k1, fun q c hq => by
    obtain ⟨u, q1, q2⟩ := cn.env q c hq
    exact ⟨u, q1, AV.mono _ k3 q2⟩, FpOK.none rfl⟩
  exact h.h env hh G' Os3 (con_re c4 t (fun w hw => by rw [hw] at e1; cases e1; exact k2.1) ht)
theorem Cl.fx {Γ : Cx} {c : Cls} {f : FuncId} {asx : List AV} (as' : List AV) {o own : List Res} {M : AV → List Res → Prop} (x : FX o asx as' own) (hc : Cl Γ c f as' own M) : Cl Γ c f asx o M := by
  refine ⟨fun {h0 G0 O0 h G Os vs} hp hr => ?_⟩
  obtain ⟨G1, Os1, k1, k2, k3⟩ := x.rep hp hr
  refine (hc.ok k1 k2).mono fun v h' ⟨g1, r, o', G', Os', g2, g3, g4, g5, g6⟩ => ?_
  exact ⟨g1, r, o', G', Os', g2, g3, g4, g5.mono k3, fun b hb => g6 b (k3 b hb)⟩
end Go.CF
namespace Go.Proofs.YtpgpdmmobblffaaGreat
open Go Go.CF
set_option maxRecDepth 20000
def mg0 : MgS := ⟨false, false, []⟩
theorem new_p (m : ModS) (hm : LayOK m.sorts m.tables) : CallP Tryz.prog 18 [mdl m] (mgs (List.replicate (mrgF m).length mg0)) := by
  have hc := cells_p m hm
  have hle := mrgF_le hm
  refine CallA.conv (a := .sl 3 (List.replicate (mrgF m).length ()) fun _ => [bl false, bl false, .val (.slice none 0 0)]) (ALe.sl (by simp) fun i x y _ hy => ?_) (CallA.fz (T := 44) (by simp; omega) ?_)
  · have : y = mg0 := (List.mem_replicate.1 (List.mem_of_getElem? hy)).2
    subst this
    exact .cons (ALe.refl _) (.cons (ALe.refl _) (.cons ALe.nil .nil))
  · refine CallA.of pg ord18 Tryz.func18 rfl Tryz.ntmps18 Tryz.results18 rfl fun h0 G0 O0 => ?_
    repeat' (first | refine Sp.h ?_ | refine Lk.r rfl ?_ | refine Rf.mk rfl ?_ | (refine Im.mk ?_; intro _) | (refine All.mk ?_; intro _) | (apply TkB.r; (focus (repeat (first | exact Take.here | apply Take.there)))) | refine Ch.l ⟨rfl, rfl⟩ ?_ | (apply Nm.r; (focus repeat (first | apply LN.cons | exact LN.nil))) | refine Rf.mk ⟨rfl, rfl, rfl⟩ ?_ | (apply Jx.r; (focus exact rfl); (focus first | omega | (simp; done) | (simp; omega))) | fail | (apply Cl.p (hc); (focus repeat' (first | exact Lend.nil | apply Lend.keep | fail))))
    refine CF.MkS.r (fun _ : Unit => [bl false, bl false, .val (.slice none 0 0)]) () rfl ?_
    repeat' (first | refine Sp.h ?_ | refine Lk.r rfl ?_ | (refine All.mk ?_; intro _) | (apply Nm.r; (focus repeat (first | apply LN.cons | exact LN.nil))) | fail)
    exact ⟨_, _, .one (.same (.nil (by (repeat (first | exact Subl.nil | refine Subl.cons (by (repeat (first | exact Take.here | apply Take.there))) ?_))))), _, rfl, rfl⟩
/-- The model of two sets. -/
def setsM : ModS := ⟨[], [⟨⟨#[97]⟩, 2, [], 0, 1, 0⟩, ⟨⟨#[114]⟩, 3, [], 0, 1, 1⟩], [], [], [⟨⟨#[111]⟩, false, []⟩, ⟨⟨#[112]⟩, false, []⟩], [⟨0, [], ⟨[], [], [(0, 0, 0), (0, 1, 0)]⟩⟩, ⟨1, [], ⟨[], [], [(1, 0, 0), (1, 1, 0)]⟩⟩], []⟩
abbrev nl0 : AV := .val (.slice none 0 0)
theorem sets_a : CallA Tryz.prog 37 [] [] fun r own => ∃ vt vo va vu vw, r = .agg [nl0, .ow vt, nl0, nl0, .ow vo, .ow va, nl0] ∧ own = [
    arrR va 59 5 [[it 0, nl0, nl0, nl0, .ow vu], [it 1, nl0, nl0, nl0, .ow vw]] id,
    arrR vw 61 3 [[it 1, it 0, it 0], [it 1, it 1, it 0]] id,
    arrR vu 61 3 [[it 0, it 0, it 0], [it 0, it 1, it 0]] id,
    arrR vo 144 3 [[sv ⟨#[111]⟩, bl false, nl0], [sv ⟨#[112]⟩, bl false, nl0]] id,
    arrR vt 84 6 [[sv ⟨#[97]⟩, it 2, nl0, it 0, it 1, it 0], [sv ⟨#[114]⟩, it 3, nl0, it 0, it 1, it 1]] id] := by
  refine CallA.of pg ord37 Tryz.func37 rfl Tryz.ntmps37 Tryz.results37 rfl fun h0 G0 O0 => ?_
  repeat' (first | refine Sp.h ?_ | refine Lk.r rfl ?_ | refine Rf.mk rfl ?_ | (refine All.mk ?_; intro _) | (apply TkB.r; (focus (repeat (first | exact Take.here | apply Take.there)))) | (apply SetAsk.r; (focus (repeat (first | exact SetAs.z | (apply SetAs.c; (focus (repeat (first | assumption | exact SetA.z | apply SetA.s)))))))) | (apply Fk.r; (focus (repeat (first | exact FillA.nil | (apply FillA.agg; (focus rfl); (focus rfl); (focus (repeat (first | exact SetAs.z | (apply SetAs.c; (focus (repeat (first | assumption | exact SetA.z | apply SetA.s)))))))) | (apply FillA.one; (focus rfl); (focus infer_instance); (focus (repeat (first | assumption | exact SetA.z | apply SetA.s)))))))) | (apply Nm.r; (focus repeat (first | apply LN.cons | exact LN.nil))) | refine Rf.mk ⟨rfl, rfl, rfl⟩ ?_ | fail)
  exact ⟨_, _, .one (.same (.nil (by (repeat (first | exact Subl.nil | refine Subl.cons (by (repeat (first | exact Take.here | apply Take.there))) ?_))))), _, _, _, _, _, rfl, rfl⟩
theorem sets_p : CallP Tryz.prog 37 [] (mdl setsM) := by
  refine CallA.fx sets_a ?_
  rintro _ _ ⟨vt, vo, va, vu, vw, rfl, rfl⟩
  repeat' (first
    | exact FX.nil
    | (apply FX.sl; (focus (repeat (first | exact Take.here | apply Take.there))); (focus exact Nat.le_of_ble_eq_true rfl))
    | apply FX.agg
    | (apply FX.le; (focus first | exact ALe.nil | exact ALe.refl _)))
end Go.Proofs.YtpgpdmmobblffaaGreat
namespace Go.Proofs.YtpgpdmmobblffaaGreat
open Go Go.CF
set_option maxRecDepth 20000
theorem bit_a (b : Bool) : CallA Tryz.prog 89 [bl b] [] fun r own => ∃ v, r = .ow v ∧ own = [arrR v 3 1 [[it (if b = true then 1 else 0)]] id] := by
  refine CallA.of pg ord89 Tryz.func89 rfl Tryz.ntmps89 Tryz.results89 rfl fun h0 G0 O0 => ?_
  cases b with
  | true =>
    repeat' (first | refine Sp.h ?_ | refine Lk.r rfl ?_ | refine Rf.mk rfl ?_ | (refine All.mk ?_; intro _) | (apply Fk.r; (focus (repeat (first | exact FillA.nil | (apply FillA.agg; (focus rfl); (focus rfl); (focus (repeat (first | exact SetAs.z | (apply SetAs.c; (focus (repeat (first | assumption | exact SetA.z | apply SetA.s)))))))) | (apply FillA.one; (focus rfl); (focus infer_instance); (focus (repeat (first | assumption | exact SetA.z | apply SetA.s)))))))) | (apply Nm.r; (focus repeat (first | apply LN.cons | exact LN.nil))) | refine Rf.mk ⟨rfl, rfl, rfl⟩ ?_ | fail)
    exact ⟨_, _, .one (.same (.nil (by (repeat (first | exact Subl.nil | refine Subl.cons (by (repeat (first | exact Take.here | apply Take.there))) ?_))))), _, rfl, rfl⟩
  | false =>
    repeat' (first | refine Sp.h ?_ | refine Lk.r rfl ?_ | refine Rf.mk rfl ?_ | (refine All.mk ?_; intro _) | (apply Fk.r; (focus (repeat (first | exact FillA.nil | (apply FillA.agg; (focus rfl); (focus rfl); (focus (repeat (first | exact SetAs.z | (apply SetAs.c; (focus (repeat (first | assumption | exact SetA.z | apply SetA.s)))))))) | (apply FillA.one; (focus rfl); (focus infer_instance); (focus (repeat (first | assumption | exact SetA.z | apply SetA.s)))))))) | (apply Nm.r; (focus repeat (first | apply LN.cons | exact LN.nil))) | refine Rf.mk ⟨rfl, rfl, rfl⟩ ?_ | fail)
    exact ⟨_, _, .one (.same (.nil (by (repeat (first | exact Subl.nil | refine Subl.cons (by (repeat (first | exact Take.here | apply Take.there))) ?_))))), _, rfl, rfl⟩
theorem bit_p (b : Bool) : CallP Tryz.prog 89 [bl b] (ints [if b = true then 1 else 0]) :=
  CallA.fx (bit_a b) fun _ _ ⟨_, e1, e2⟩ => by
    subst e1; subst e2
    exact .sl .here (Nat.le_of_ble_eq_true rfl) (.agg (.le (ALe.refl _) .nil) .nil) .nil
def setB (t : TblS) (g : MgS) : Bool := if t.kind = 2 then g.put || decide (0 < g.marks.length) else g.put && !g.drop && decide (g.marks.length = 0)
def setV (t : TblS) (g : MgS) : List Int := [if setB t g = true then 1 else 0]
theorem valuesS_p (t : TblS) (g : MgS) (h : t.kind = 2 ∨ t.kind = 3) : CallP Tryz.prog 45 [.agg (tblC t), .agg (mgC g)] (ints (setV t g)) := by
  obtain ⟨put, drop, l⟩ := g
  rcases h with h | h
  · have hB : setB t ⟨put, drop, l⟩ = (put || decide (0 < l.length)) := if_pos h
    refine CallA.of pg ord45 Tryz.func45 rfl Tryz.ntmps45 Tryz.results45 rfl fun h0 G0 O0 => ?_
    cases put with
    | true =>
      repeat' (first | refine Sp.h ?_ | refine Lk.r rfl ?_ | refine Rf.mk rfl ?_ | (apply Bd.t; (focus (first | assumption | omega | rfl))) | (refine All.mk ?_; intro _) | (apply TkB.r; (focus (repeat (first | exact Take.here | apply Take.there)))) | (apply Nm.r; (focus repeat (first | apply LN.cons | exact LN.nil))) | fail | (apply Cl.p (bit_p _); (focus repeat' (first | exact Lend.nil | apply Lend.keep | fail))))
      exact Fin.p rfl (congrArg ints (by unfold setV; rw [hB]; simp))
    | false =>
      repeat' (first | refine Sp.h ?_ | refine Lk.r rfl ?_ | refine Rf.mk rfl ?_ | (apply Bd.t; (focus (first | assumption | omega | rfl))) | (refine Im.mk ?_; intro _) | (refine All.mk ?_; intro _) | (apply TkB.r; (focus (repeat (first | exact Take.here | apply Take.there)))) | (apply Nm.r; (focus repeat (first | apply LN.cons | exact LN.nil))) | fail | (apply Cl.p (bit_p _); (focus repeat' (first | exact Lend.nil | apply Lend.keep | fail))))
      exact Fin.p rfl (congrArg ints (by unfold setV; rw [hB]; simp))
  · have hB : setB t ⟨put, drop, l⟩ = (put && !drop && decide (l.length = 0)) := if_neg (by omega)
    refine CallA.of pg ord45 Tryz.func45 rfl Tryz.ntmps45 Tryz.results45 rfl fun h0 G0 O0 => ?_
    cases put with
    | true =>
      cases drop with
      | true =>
        repeat' (first | refine Sp.h ?_ | refine Lk.r rfl ?_ | refine Rf.mk rfl ?_ | (apply Bd.t; (focus (first | assumption | omega | rfl))) | (apply Bd.f; (focus (first | assumption | omega | exact Bool.false_ne_true))) | (refine All.mk ?_; intro _) | (apply TkB.r; (focus (repeat (first | exact Take.here | apply Take.there)))) | (apply Nm.r; (focus repeat (first | apply LN.cons | exact LN.nil))) | fail | (apply Cl.p (bit_p _); (focus repeat' (first | exact Lend.nil | apply Lend.keep | fail))))
        exact Fin.p rfl (congrArg ints (by unfold setV; rw [hB]; simp))
      | false =>
        repeat' (first | refine Sp.h ?_ | refine Lk.r rfl ?_ | refine Rf.mk rfl ?_ | (apply Bd.t; (focus (first | assumption | omega | rfl))) | (apply Bd.f; (focus (first | assumption | omega | exact Bool.false_ne_true))) | (refine Im.mk ?_; intro _) | (refine All.mk ?_; intro _) | (apply TkB.r; (focus (repeat (first | exact Take.here | apply Take.there)))) | (apply Nm.r; (focus repeat (first | apply LN.cons | exact LN.nil))) | fail | (apply Cl.p (bit_p _); (focus repeat' (first | exact Lend.nil | apply Lend.keep | fail))))
        exact Fin.p rfl (congrArg ints (by unfold setV; rw [hB]; simp))
    | false =>
      repeat' (first | refine Sp.h ?_ | refine Lk.r rfl ?_ | refine Rf.mk rfl ?_ | (apply Bd.t; (focus (first | assumption | omega | rfl))) | (apply Bd.f; (focus (first | assumption | omega | exact Bool.false_ne_true))) | (refine All.mk ?_; intro _) | (apply TkB.r; (focus (repeat (first | exact Take.here | apply Take.there)))) | (apply Nm.r; (focus repeat (first | apply LN.cons | exact LN.nil))) | fail | (apply Cl.p (bit_p _); (focus repeat' (first | exact Lend.nil | apply Lend.keep | fail))))
      exact Fin.p rfl (congrArg ints (by unfold setV; rw [hB]; simp))
/-- The values of a list of sets. -/
def setsV (ts : List TblS) (l : List MgS) : List (List Int) := (ts.zip l).map fun p => setV p.1 p.2
theorem setsV_succ {ts : List TblS} {l : List MgS} {i : Nat} {t : TblS} {g : MgS} (ht : ts[i]? = some t) (hg : l[i]? = some g) : setsV (ts.take (i + 1)) (l.take (i + 1)) = setsV (ts.take i) (l.take i) ++ [setV t g] := by
  have h1 := (List.getElem?_eq_some_iff.1 ht).1
  have h2 := (List.getElem?_eq_some_iff.1 hg).1
  rw [List.take_add_one, List.take_add_one, ht, hg, setsV, Option.toList_some, Option.toList_some, List.zip_append (by simp; omega), List.map_append]
  rfl
theorem valuesL_p (m : ModS) (l : List MgS) (hm : LayOK m.sorts m.tables) (hv : ValL (mrgF m) l) (hs : ∀ t ∈ mrgF m, t.kind = 2 ∨ t.kind = 3) (hl : (mrgF m).length ≤ 1000) :
    CallP Tryz.prog 14 [mdl m, mgs l] (.tup [clks (setsV (mrgF m) l), it 0]) := by
  refine CallA.fzt (T := 22) (by simp [setsV]; omega) ?_
  have hva := validM_p m l hm
  have hce := cells_p m hm
  have hlen := hv.1
  refine CallA.of pg ord14 Tryz.func14 rfl Tryz.ntmps14 Tryz.results14 rfl fun h0 G0 O0 => ?_
  repeat' (first | refine Sp.h ?_ | refine Lk.r rfl ?_ | refine Rf.mk rfl ?_ | (apply Bd.t; (focus (first | assumption | omega | rfl))) | (refine Im.mk ?_; intro _) | (refine All.mk ?_; intro _) | (apply TkB.r; (focus (repeat (first | exact Take.here | apply Take.there)))) | refine Ch.l ⟨rfl, rfl⟩ ?_ | fail | (apply Cl.p (hva); (focus repeat' (first | exact Lend.nil | apply Lend.keep | fail))) | (apply Cl.p (hce); (focus repeat' (first | exact Lend.nil | apply Lend.keep | fail))))
  refine CA.nilOwn 6 22 1 clkC rfl fun v => ?_
  refine CA.loop (fun x : Nat × Value => ⟨[(1, mgs l), (6, .ow x.2), (14, tbls (mrgF m)), (15, it ((mrgF m).length : Nat)), (16, it x.1)], [arrR x.2 22 1 (setsV ((mrgF m).take x.1) (l.take x.1)) clkC]⟩) (fun x => x.1 ≤ (mrgF m).length) (fun x => (mrgF m).length - x.1) (0, v) ⟨by (repeat (first | exact trivial | refine ⟨rfl, ?_⟩)), by (repeat (first | exact Subl.nil | refine Subl.cons (by (repeat (first | exact Take.here | apply Take.there))) ?_))⟩ (Nat.zero_le _) ?_
  rintro ⟨i, w⟩ hi
  simp only at hi
  simp only
  by_cases hin : i < (mrgF m).length
  · obtain ⟨t, ht⟩ := get_of hin
    obtain ⟨g, hg⟩ := get_of (l := l) (i := i) (by omega)
    have hsu := setsV_succ ht hg
    have hva := valuesS_p t g (hs t (List.mem_of_getElem? ht))
    have hln : (setsV ((mrgF m).take i) (l.take i)).length ≤ 1000 := by simp [setsV]; omega
    repeat' (first | refine Sp.h ?_ | refine Lk.r rfl ?_ | refine Rf.mk rfl ?_ | (apply Bd.t; (focus (first | assumption | omega | rfl))) | refine OpK.r rfl ?_ | (apply Om.mk; (focus first | omega | (simp <;> omega))) | (refine All.mk ?_; intro _) | (apply TkA.r; (focus (repeat (first | exact Take.here | apply Take.there)))) | (apply TkB.r; (focus (repeat (first | exact Take.here | apply Take.there)))) | (apply Ix.q; (focus exact rfl); (focus assumption)) | refine Ce.r ?_ | refine Ch.l ⟨rfl, rfl⟩ ?_ | (apply SetAsk.r; (focus (repeat (first | exact SetAs.z | (apply SetAs.c; (focus (repeat (first | assumption | exact SetA.z | apply SetA.s)))))))) | (apply Fk.r; (focus (repeat (first | exact FillA.nil | (apply FillA.agg; (focus rfl); (focus rfl); (focus (repeat (first | exact SetAs.z | (apply SetAs.c; (focus (repeat (first | assumption | exact SetA.z | apply SetA.s)))))))) | (apply FillA.one; (focus rfl); (focus infer_instance); (focus (repeat (first | assumption | exact SetA.z | apply SetA.s)))))))) | (apply Nm.r; (focus repeat (first | apply LN.cons | exact LN.nil))) | refine Rf.mk ⟨rfl, rfl⟩ ?_ | refine Rf.mk ⟨rfl, rfl, rfl⟩ ?_ | (apply Mp.lit; (focus repeat (first | exact MpL.nil | (apply MpL.cons; (focus rfl)) | (apply MpL.inv; (focus repeat (first | apply LN.cons | exact LN.nil)); (focus infer_instance))))) | (apply CA.draw; (focus rfl); (focus kernel_rfl); (focus kernel_rfl); (focus repeat' (first | apply ON.one | exact ON.done | exact ON.none | apply ON.alt)); (focus rfl)) | (apply Ov.n; (focus first | omega | (simp <;> omega))) | fail | (apply Cl.p (hva); (focus repeat' (first | exact Lend.nil | apply Lend.keep | fail))))
    rw [← hsu]
    exact PA.lp (i + 1, _) ⟨by (repeat (first | exact trivial | refine ⟨rfl, ?_⟩)), by (repeat (first | exact Subl.nil | refine Subl.cons (by (repeat (first | exact Take.here | apply Take.there))) ?_))⟩ ⟨hin, by simp only; omega⟩
  · have hie : i = (mrgF m).length := by omega
    subst hie
    rw [List.take_length, List.take_of_length_le (l := l) (by omega)]
    repeat' (first | refine Sp.h ?_ | refine Lk.r rfl ?_ | refine Rf.mk rfl ?_ | (apply Bd.f; (focus (first | assumption | omega | exact Bool.false_ne_true))) | (apply Nm.r; (focus repeat (first | apply LN.cons | exact LN.nil))) | fail)
    exact ⟨_, _, .tup (.same (.same (.nil (by (repeat (first | exact Subl.nil | refine Subl.cons (by (repeat (first | exact Take.here | apply Take.there))) ?_)))))), _, rfl, rfl⟩
end Go.Proofs.YtpgpdmmobblffaaGreat
namespace Go.CF
open Go
section
variable {Γ : Cx} {k : List KI} {e : EA} {o : List Res} {N : NA} {c : Cls} {d : Tmp} {ty : TypeId} {x y z : Operand} {t u : TypeId} {kk : IntKind} {i : Int}
instance {v : Value} {s j m : Nat} : Sp (Ap1 Γ c d (.call { callee := .builtin .len, args := #[x], argTypes := #[t] }) ty e o N x (.os v s j m)) (Lk (slE Γ.tt t) fun _ => N ((d, .val (.int .i64 (m : Int))) :: e) o) := ⟨fun ⟨p, hp, hn⟩ => ⟨fun ha => ⟨fun env hh G Os cn => by
  obtain ⟨w, h1, q, len, cap, rfl, hle, rfl⟩ := cn.get ha
  obtain ⟨ti, t1, t2, t3⟩ := slE_spec hp
  exact St.len Γ.ok t1 t2 h1 (CN.mk (cn.put d (a := .val _) rfl) hn)⟩⟩⟩
instance {v : Value} {s j m : Nat} : Sp (Ap2 Γ c d (.indexAddr t x y) ty e o N x (.os v s j m) y (.val (.int kk i))) (Lk (slE Γ.tt t) fun p => TkA o v fun _ sz _ _ _ => Rf (p.2.size = sz ∧ s = sz) (Sx i m fun q => N ((d, .oe v sz (j + q) 0) :: e) o)) := ⟨fun ⟨p, hp, α, T, sz, l, f, rest, tk, hz, q, hi, hq, hn⟩ => ⟨fun ha hb => ⟨fun env hh G Os cn => by
  obtain ⟨hz, rfl⟩ := hz
  obtain ⟨w, h1, q', len, cap, rfl, hle, rfl⟩ := cn.get ha
  obtain ⟨w', h1', h2'⟩ := cn.get hb
  have hw : w' = .int kk i := h2'
  subst hw
  obtain ⟨O, Os', cn2⟩ := cn.take tk
  obtain ⟨⟨_, rows, hw, _⟩, _⟩ := cn2.hp.own
  obtain ⟨ti, t1, t2, t3⟩ := slE_spec hp
  rcases hw.ok with ⟨he, h0⟩ | ⟨b, of, cap', L, he, _, _, hcap, _⟩
  · cases he; omega
  · cases he
    have hs : subA (some ⟨b, of, none⟩) s j cap = some ⟨b, of + j * s, none⟩ := by
      unfold subA
      rw [if_neg (by omega)]
      simp [addr_add]
    rw [hs] at h1
    exact St.indexAddr Γ.ok t1 t2 t3 h1 h1' hi hq (CN.mk (cn.put d (a := .oe _ s (j + q) 0) ⟨b, of, _, cap, rfl, by rw [hz, Nat.add_zero, Nat.add_mul, Nat.add_assoc]⟩) hn)⟩⟩⟩
theorem ALe.tup {l m : List AV} (r : RLe l m) : ALe (.tup l) (.tup m) := ⟨fun ⟨vs, h1, h2⟩ => ⟨vs, h1, r.rep h2⟩⟩
end

/-! ### The library's sorts -/
section
open Go.Sort
theorem putCells_list {α : Type} [Inhabited α] (enc : α → Value) (o : Nat) (d : List α) (c : List Value) (hd : o + d.length ≤ c.length) :
    putCells enc o d.toArray c.toArray = (c.take o ++ d.map enc ++ c.drop (o + d.length)).toArray := by
  apply Array.ext'
  simp only [putCells]
  refine List.ext_getElem? fun q => ?_
  simp only [Array.toList_mapIdx, List.getElem?_mapIdx, List.size_toArray]
  by_cases g1 : q < o
  · have h2 : q < c.length := by omega
    rw [List.append_assoc, List.getElem?_append_left (by simp; omega), List.getElem?_take, if_pos g1, List.getElem?_eq_getElem h2, Option.map_some, if_neg (by omega)]
  · by_cases g2 : q < o + d.length
    · have h2 : q < c.length := by omega
      have h3 : q - o < d.length := by omega
      rw [List.getElem?_append_left (by simp; omega), List.getElem?_append_right (by simp; omega), List.getElem?_eq_getElem h2, Option.map_some, if_pos (by omega), List.length_take, Nat.min_eq_left (by omega), List.getElem?_map, List.getElem?_eq_getElem h3]
      simp [getElem!_pos, h3]
    · rw [List.getElem?_append_right (by simp; omega), List.getElem?_drop]
      simp only [List.length_append, List.length_take, List.length_map, Nat.min_eq_left (show o ≤ c.length by omega)]
      rw [show o + d.length + (q - (o + d.length)) = q by omega]
      cases hq : c[q]? with
      | none => rfl
      | some x => rw [Option.map_some, if_neg (by omega)]
theorem flat_one {α β : Type} (g : α → β) : ∀ l : List α, (l.map fun x => [g x]).flatten = l.map g
  | [] => rfl
  | a :: l => by simp [flat_one g l]
/-- A row of one's own behind a sort. -/
theorem put_own {α : Type} [Inhabited α] {enc : α → Value} {w w' : World} {b of n cap len T sz : Nat} {L : List Value} {ds : List α} {os : Array Obj} (hb : Blk w.heap b T L) (ho : of + cap * sz ≤ L.length) (hlen : len ≤ cap) (hd : ds.length = len * sz)
    (hw' : w' = Sort.grow (putRow enc (Sort.ahead w n) b of ds.toArray) os) :
    Same w w' ∧ FPx (fun x => ¬ x = b) w.heap w'.heap ∧ Own w'.heap (.slice (some ⟨b, of, none⟩) len cap) T sz len (ds.map enc) := by
  have hm : len * sz ≤ cap * sz := Nat.mul_le_mul_right _ hlen
  have hg := hb.get
  have hlt := (Array.getElem?_eq_some_iff.1 hg).1
  have hh : w'.heap = w.heap.modify b (onCells (putCells enc of ds.toArray)) ++ os := by rw [hw']; rfl
  refine ⟨by subst hw'; exact ⟨rfl, rfl, rfl, Nat.le_add_right _ _⟩, ⟨?_, fun q hq hl => ?_⟩, by simp [hd], .inr ⟨b, of, cap, L.take of ++ ds.map enc ++ L.drop (of + ds.length), rfl, ⟨?_⟩, ?_, hlen, ?_⟩⟩
  · rw [hh]; simp
  · rw [hh, Array.getElem?_append_left (by simpa using hl), Array.getElem?_modify, if_neg (fun e => hq e.symm)]
  · rw [hh, Array.getElem?_append_left (by simpa using hlt), Array.getElem?_modify, if_pos rfl, hg, Option.map_some]
    simp only [onCells]
    rw [putCells_list enc of ds L (by omega)]
  · simp only [List.length_append, List.length_take, List.length_map, List.length_drop]
    omega
  · rw [List.append_assoc, List.drop_append_of_le_length (by simp; omega), List.drop_eq_nil_of_le (by simp; omega), List.nil_append, List.take_append_of_le_length (by simp; omega), List.take_of_length_le (by simp; omega)]
theorem holds_blk {w : World} {b of T : Nat} {L : List Value} (hb : Blk w.heap b T L) {α : Type} [Inhabited α] (enc : α → Value) (ds : List α) (hd : (L.drop of).take ds.length = ds.map enc) : Holds enc w b of ds.toArray := by
  intro j hj
  have hj : j < ds.length := by simpa using hj
  have h1 : ((L.drop of).take ds.length)[j]? = some (enc ds[j]) := by rw [hd]; simp [hj]
  rw [List.getElem?_take, if_pos hj, List.getElem?_drop] at h1
  have hg := hb.get
  constructor
  · simp only [World.cell?, hg]
    simp [h1, hj]
  · simp [World.frozen?, hg]
open Go.Proofs in
/-- slices.Sort on ints. -/
theorem sortI_a {P : Program} {ρ : Shelf.Ren} (L : Lays.n189 P ρ) (v : Value) (T : TypeId) (l : List Int) (hl : l.length ≤ 1000000) :
    CallA P (ρ.f 189) [.ow v] [arrR v T 1 l fun x => [.val (.int .i64 x)]] fun r own => r = .tup [] ∧ own = [arrR v T 1 (l.mergeSort fun x y => decide (x ≤ y)) fun x => [.val (.int .i64 x)]] := by
  refine ⟨fun h G Os vs hr hp => ?_⟩
  match vs, hr with
  | [w0], ⟨⟨h1, p, len, cap, h2⟩, _⟩ =>
    subst h1
    match Os, hp with
    | [O], hp =>
      obtain ⟨⟨hO, rows, hown, hrows⟩, _⟩ := hp.own
      have hflat : rows.flatten = l.map (Value.int .i64) := by
        have h3 : rows = l.map fun x => [Value.int .i64 x] := by
          refine List.ext_getElem? fun q => ?_
          rw [List.getElem?_map]
          cases hq : l[q]? with
          | none =>
            have := List.getElem?_eq_none_iff.1 hq
            have := hrows.len
            rw [List.getElem?_eq_none (by omega)]; rfl
          | some x =>
            obtain ⟨row, g1, g2, _⟩ := hrows.at hq
            rw [g1]
            have : row = [Value.int .i64 x] := repT_val (r := [.int .i64 x]) g2.t
            rw [this]; rfl
        rw [h3, flat_one]
      have fin : ∀ rows', rows' = (l.mergeSort fun x y => decide (x ≤ y)).map (fun x => [Value.int .i64 x]) → ∀ h' G', Rows h' G' 1 rows' (l.mergeSort fun x y => decide (x ≤ y)) fun x => [AV.val (.int .i64 x)] := by
        rintro _ rfl h' G'
        refine ⟨by simp, fun q r x g1 g2 => ?_, fun r hr => ?_⟩
        · rw [List.getElem?_map, g2] at g1
          cases g1
          exact ⟨⟨rfl, trivial⟩, by simp [Value.oneCell']⟩
        · obtain ⟨x, _, rfl⟩ := List.mem_map.1 hr; rfl
      have hff : ∀ s : List Int, (s.map fun x => [Value.int .i64 x]).flatten = s.map (Value.int .i64) := fun s => flat_one _ s
      rw [hflat] at hown
      refine ⟨fun w hw => ?_⟩
      subst hw
      rcases hown.ok with ⟨he, h0⟩ | ⟨b, of, cap', L', he, hb, h3, h4, h5⟩
      · have hl0 : l = [] := List.eq_nil_of_length_eq_zero h0
        subst hl0
        subst he
        refine (Any.slices_Sort_int_none L none 0 w).mono ?_
        rintro e w' ⟨rfl, rfl⟩
        exact ⟨_, rfl, Same.refl _, .tup [], _, G, [O], ⟨rfl, rfl⟩, ⟨[], rfl, trivial⟩, ⟨⟨⟨hO, rows, by rw [hflat]; simpa using hown, by simpa using hrows⟩, trivial⟩, hp.g, hp.g0, hp.o, hp.d, hp.fp⟩⟩
      · subst he
        rw [Nat.mul_one] at h3 h5
        have hH := holds_blk hb (Value.int .i64) l (by simpa using h5)
        refine (calls_of_every_depth fun D => AnyS.slices_Sort_int_in L.lead D b of cap' l w hH hb.lt (by omega)).mono ?_
        rintro e w' ⟨rfl, n, os, hw'⟩
        obtain ⟨k1, k2, k3⟩ := put_own (ds := l.mergeSort fun x y => decide (x ≤ y)) (sz := 1) (len := l.length) (cap := cap') hb (by omega) h4 (by simp) hw'
        have hOb : ∀ x, O x ↔ x = b := fun x => by rw [hO]; simp [blkOf]
        have k2' : FPx (fun x => ¬ O x) w.heap w'.heap := k2.mono fun x hx e => hx ((hOb x).2 e)
        obtain ⟨k4, _⟩ := hp.upd (R' := arrR (.slice (some ⟨b, of, none⟩) l.length cap') T 1 (l.mergeSort fun x y => decide (x ≤ y)) fun x => [.val (.int .i64 x)]) (O' := O) k2'
          (fun x hx => ⟨Nat.lt_of_lt_of_le (hp.o O (by simp) x hx).1 k2.size, .inl hx⟩)
          ⟨hO, _, by rw [hff]; simpa using k3, fin _ rfl _ _⟩
        exact ⟨_, rfl, k1, .tup [], _, G, [O], ⟨rfl, rfl⟩, ⟨[], rfl, trivial⟩, k4⟩
end
end Go.CF
namespace Go.Proofs.YtpgpdmmobblffaaGreat
open Go Go.CF
set_option maxRecDepth 20000
def laysSort_ren : Go.Shelf.Ren := ⟨fun | 189 => 90 | 125 => 129 | 257 => 128 | 128 => 157 | 129 => 158 | 294 => 148 | 295 => 149 | 296 => 150 | 297 => 151 | 298 => 152 | 299 => 153 | 216 => 154 | 300 => 155 | 301 => 156 | 328 => 166 | 329 => 167 | 330 => 168 | 331 => 169 | 332 => 170 | 215 => 99 | 343 => 183 | n => n, fun | 28 => 22 | 3 => 3 | 46 => 195 | 0 => 0 | 51 => 217 | 53 => 219 | 4 => 4 | 183 => 211 | 182 => 210 | 131 => 190 | 5 => 5 | 9 => 9 | 218 => 229 | 222 => 233 | 228 => 244 | 229 => 241 | n => n, fun | n => n⟩
theorem laysSort : Go.Proofs.Lays.n189 Tryz.prog laysSort_ren := {
  mixed := by kernel_rfl,
  f125 := Tryz.func129.trans (congrArg some (by kernel_rfl)),
  f128 := Tryz.func157.trans (congrArg some (by kernel_rfl)),
  f129 := Tryz.func158.trans (congrArg some (by kernel_rfl)),
  f189 := Tryz.func90.trans (congrArg some (by kernel_rfl)),
  f215 := Tryz.func99.trans (congrArg some (by kernel_rfl)),
  f216 := Tryz.func154.trans (congrArg some (by kernel_rfl)),
  f257 := Tryz.func128.trans (congrArg some (by kernel_rfl)),
  f294 := Tryz.func148.trans (congrArg some (by kernel_rfl)),
  f295 := Tryz.func149.trans (congrArg some (by kernel_rfl)),
  f296 := Tryz.func150.trans (congrArg some (by kernel_rfl)),
  f297 := Tryz.func151.trans (congrArg some (by kernel_rfl)),
  f298 := Tryz.func152.trans (congrArg some (by kernel_rfl)),
  f299 := Tryz.func153.trans (congrArg some (by kernel_rfl)),
  f300 := Tryz.func155.trans (congrArg some (by kernel_rfl)),
  f301 := Tryz.func156.trans (congrArg some (by kernel_rfl)),
  f328 := Tryz.func166.trans (congrArg some (by kernel_rfl)),
  f329 := Tryz.func167.trans (congrArg some (by kernel_rfl)),
  f330 := Tryz.func168.trans (congrArg some (by kernel_rfl)),
  f331 := Tryz.func169.trans (congrArg some (by kernel_rfl)),
  f332 := Tryz.func170.trans (congrArg some (by kernel_rfl)),
  f343 := Tryz.func183.trans (congrArg some (by kernel_rfl)),
  t0 := Tryz.underlying0,
  a0 := Tryz.isAgg0,
  z0 := Tryz.sizeOf0,
  v0 := Tryz.zeroValue0,
  t3 := Tryz.underlying3,
  a3 := Tryz.isAgg3,
  z3 := Tryz.sizeOf3,
  v3 := Tryz.zeroValue3,
  t4 := Tryz.underlying4,
  a4 := Tryz.isAgg4,
  z4 := Tryz.sizeOf4,
  v4 := Tryz.zeroValue4,
  t5 := Tryz.underlying5,
  a5 := Tryz.isAgg5,
  z5 := Tryz.sizeOf5,
  v5 := Tryz.zeroValue5,
  t9 := Tryz.underlying9,
  a9 := Tryz.isAgg9,
  z9 := Tryz.sizeOf9,
  v9 := Tryz.zeroValue9,
  t28 := Tryz.underlying22,
  a28 := Tryz.isAgg22,
  z28 := Tryz.sizeOf22,
  v28 := Tryz.zeroValue22,
  t46 := Tryz.underlying195,
  a46 := Tryz.isAgg195,
  z46 := Tryz.sizeOf195,
  v46 := Tryz.zeroValue195,
  t51 := Tryz.underlying217,
  a51 := Tryz.isAgg217,
  z51 := Tryz.sizeOf217,
  v51 := Tryz.zeroValue217,
  t53 := Tryz.underlying219,
  a53 := Tryz.isAgg219,
  z53 := Tryz.sizeOf219,
  v53 := Tryz.zeroValue219,
  t131 := Tryz.underlying190,
  a131 := Tryz.isAgg190,
  z131 := Tryz.sizeOf190,
  v131 := Tryz.zeroValue190,
  t182 := Tryz.underlying210,
  a182 := Tryz.isAgg210,
  z182 := Tryz.sizeOf210,
  v182 := Tryz.zeroValue210,
  t183 := Tryz.underlying211,
  a183 := Tryz.isAgg211,
  z183 := Tryz.sizeOf211,
  v183 := Tryz.zeroValue211,
  t218 := Tryz.underlying229,
  a218 := Tryz.isAgg229,
  z218 := Tryz.sizeOf229,
  v218 := Tryz.zeroValue229,
  t222 := Tryz.underlying233,
  a222 := Tryz.isAgg233,
  z222 := Tryz.sizeOf233,
  v222 := Tryz.zeroValue233,
  t228 := Tryz.underlying244,
  a228 := Tryz.isAgg244,
  z228 := Tryz.sizeOf244,
  v228 := Tryz.zeroValue244,
  t229 := Tryz.underlying241,
  a229 := Tryz.isAgg241,
  z229 := Tryz.sizeOf241,
  v229 := Tryz.zeroValue241 }
abbrev i1 : Int → List AV := fun x => [.val (.int .i64 x)]
def srtI (l : List Int) : List Int := l.mergeSort fun x y => decide (x ≤ y)
theorem sortInt_a (v : Value) (T : TypeId) (l : List Int) (hl : l.length ≤ 1000000) : CallA Tryz.prog 90 [.ow v] [arrR v T 1 l i1] fun r own => r = .tup [] ∧ own = [arrR v T 1 (srtI l) i1] :=
  sortI_a laysSort v T l hl
/-- A list without what equals what stands ahead of it. -/
noncomputable def ddN {α : Type} (l : List α) : Nat → List α
  | 0 => []
  | i + 1 => @ite _ (0 < i ∧ l[i]? = l[i - 1]?) (Classical.propDecidable _) (ddN l i) (ddN l i ++ l[i]?.toList)
noncomputable def dd {α : Type} (l : List α) : List α := ddN l l.length
theorem ddN_eq {α : Type} {l : List α} {i : Nat} (h0 : 0 < i) (h : l[i]? = l[i - 1]?) : ddN l (i + 1) = ddN l i := by
  rw [ddN]; exact @if_pos _ (Classical.propDecidable _) ⟨h0, h⟩ _ _ _
theorem ddN_ne {α : Type} {l : List α} {i : Nat} {x : α} (hx : l[i]? = some x) (h : 0 < i → l[i]? ≠ l[i - 1]?) : ddN l (i + 1) = ddN l i ++ [x] := by
  rw [ddN, hx]
  exact @if_neg _ (Classical.propDecidable _) (fun e => h e.1 (by rw [hx]; exact e.2)) _ _ _
theorem ddN_len {α : Type} {l : List α} : ∀ i, (ddN l i).length ≤ i
  | 0 => Nat.le_refl _
  | i + 1 => by
    have := ddN_len (l := l) i
    rw [ddN]
    cases l[i]? <;> (split <;> simp <;> omega)
/-- As long asx no two are equal, nothing is left out. -/
theorem ddN_take {α : Type} {l : List α} {i : Nat} (hi : i ≤ l.length) (h : ∀ j, 0 < j → j < i → l[j]? ≠ l[j - 1]?) : ddN l i = l.take i := by
  induction i with
  | zero => rfl
  | succ i ih =>
    have hx := List.getElem?_eq_getElem (show i < l.length by omega)
    rw [ddN_ne hx (fun h0 => h i h0 (by omega)), ih (by omega) (fun j h1 h2 => h j h1 (by omega)), List.take_add_one, hx]; rfl
abbrev vI (x : Int) : List Value := [.int .i64 x]
theorem vI_map (l : List Int) : (l.map vI).map valR = l.map i1 := by rw [List.map_map]; rfl
set_option maxHeartbeats 1000000 in
theorem compactI_a (w : Value) (l : List Int) (hl : l.length ≤ 1000000) : CallA Tryz.prog 91 [.ow w] [arrR w 3 1 l i1] fun q own => ∃ w', q = .ow w' ∧ own = [arrR w' 3 1 (dd l) i1] := by
  refine CallA.of pg ord91 Tryz.func91 rfl Tryz.ntmps91 Tryz.results91 rfl fun h0 G0 O0 => ?_
  by_cases h2 : l.length < 2
  · have he : dd l = l := by
      rw [dd, ddN_take (Nat.le_refl _) (fun j h1 h3 => by omega), List.take_length]
    rw [he]
    repeat' (first | refine Sp.h ?_ | refine Lk.r rfl ?_ | refine Rf.mk rfl ?_ | (apply Bd.t; (focus (first | assumption | omega | rfl))) | (apply TkA.r; (focus (repeat (first | exact Take.here | apply Take.there)))) | (apply Nm.r; (focus repeat (first | apply LN.cons | exact LN.nil))) | fail)
    exact ⟨_, _, .one (.same (.nil (by (repeat (first | exact Subl.nil | refine Subl.cons (by (repeat (first | exact Take.here | apply Take.there))) ?_))))), _, rfl, rfl⟩
  repeat' (first | refine Sp.h ?_ | refine Lk.r rfl ?_ | refine Rf.mk rfl ?_ | (apply Bd.f; (focus (first | assumption | omega | exact Bool.false_ne_true))) | (apply TkA.r; (focus (repeat (first | exact Take.here | apply Take.there)))) | fail)
  refine CA.loop (fun k : Nat => ⟨[(0, .ow w), (3, it k)], [arrR w 3 1 l i1]⟩) (fun k => 1 ≤ k ∧ k ≤ l.length ∧ ∀ j, 0 < j → j < k → l[j]? ≠ l[j - 1]?) (fun k => l.length - k) 1 ⟨by (repeat (first | exact trivial | refine ⟨rfl, ?_⟩)), by (repeat (first | exact Subl.nil | refine Subl.cons (by (repeat (first | exact Take.here | apply Take.there))) ?_))⟩ ⟨Nat.le_refl _, by omega, fun j h1 h3 => by omega⟩ ?_
  rintro k ⟨h1, h3, h4⟩
  by_cases hk : k < l.length
  rotate_left
  · have hke : k = l.length := by omega
    have he : dd l = l := by rw [dd, ← hke, ddN_take h3 h4, hke, List.take_length]
    rw [he]
    repeat' (first | refine Sp.h ?_ | refine Lk.r rfl ?_ | refine Rf.mk rfl ?_ | (apply Bd.f; (focus (first | assumption | omega | exact Bool.false_ne_true))) | (apply TkA.r; (focus (repeat (first | exact Take.here | apply Take.there)))) | (apply Nm.r; (focus repeat (first | apply LN.cons | exact LN.nil))) | fail)
    exact ⟨_, _, .one (.same (.nil (by (repeat (first | exact Subl.nil | refine Subl.cons (by (repeat (first | exact Take.here | apply Take.there))) ?_))))), _, rfl, rfl⟩
  obtain ⟨x, hx⟩ := get_of hk
  obtain ⟨y, hy⟩ := get_of (l := l) (i := k - 1) (by omega)
  by_cases hxy : x = y
  rotate_left
  · repeat' (first | refine Sp.h ?_ | refine Lk.r rfl ?_ | refine Rf.mk rfl ?_ | (apply Bd.t; (focus (first | assumption | omega | rfl))) | (apply Bd.f; (focus (first | assumption | omega | exact Bool.false_ne_true))) | refine OpK.r rfl ?_ | (apply TkA.r; (focus (repeat (first | exact Take.here | apply Take.there)))) | (apply Ix.q; (focus exact rfl); (focus assumption)) | (apply Ix.r; (focus assumption); (focus omega)) | (apply At.r; (focus assumption)) | (apply CA.draw; (focus rfl); (focus kernel_rfl); (focus kernel_rfl); (focus repeat' (first | apply ON.one | exact ON.done | exact ON.none | apply ON.alt)); (focus rfl)) | (apply Ov.n; (focus first | omega | (simp <;> omega))) | fail)
    refine PA.lp (k + 1) ⟨by (repeat (first | exact trivial | refine ⟨rfl, ?_⟩)), by (repeat (first | exact Subl.nil | refine Subl.cons (by (repeat (first | exact Take.here | apply Take.there))) ?_))⟩ ⟨⟨by omega, hk, fun j g1 g2 => ?_⟩, by omega⟩
    by_cases hj : j = k
    · subst hj; rw [hx, hy]; exact fun e => hxy (by cases e; rfl)
    · exact h4 j g1 (by omega)
  repeat' (first | refine Sp.h ?_ | refine Lk.r rfl ?_ | refine Rf.mk rfl ?_ | (apply Bd.t; (focus (first | assumption | omega | rfl))) | refine OpK.r rfl ?_ | (apply TkA.r; (focus (repeat (first | exact Take.here | apply Take.there)))) | (apply Ix.q; (focus exact rfl); (focus assumption)) | (apply Ix.r; (focus assumption); (focus omega)) | (apply At.r; (focus assumption)) | (apply Jx.r; (focus exact rfl); (focus first | omega | (simp; done) | (simp; omega))) | (apply CA.draw; (focus rfl); (focus kernel_rfl); (focus kernel_rfl); (focus repeat' (first | apply ON.one | exact ON.done | exact ON.none | apply ON.alt)); (focus rfl)) | (apply Ov.n; (focus first | omega | (simp <;> omega))) | fail)
  refine CA.loop (fun q : Nat × Nat × List Int => ⟨[(0, .ow w), (3, it q.1), (4, .os w 1 k (l.length - k)), (5, it q.2.1)], [arrR w 3 1 q.2.2 i1]⟩)
    (fun q => 1 ≤ q.2.1 ∧ q.1 < k + q.2.1 ∧ k + q.2.1 ≤ l.length ∧ q.2.2.length = l.length ∧ q.2.2.take q.1 = ddN l (k + q.2.1) ∧ q.2.2.drop (k + q.2.1 - 1) = l.drop (k + q.2.1 - 1)) (fun q => l.length - q.2.1) (k, 1, l) ⟨by (repeat (first | exact trivial | refine ⟨rfl, ?_⟩)), by (repeat (first | exact Subl.nil | refine Subl.cons (by (repeat (first | exact Take.here | apply Take.there))) ?_))⟩
    ⟨Nat.le_refl _, by simp only; omega, by simp only; omega, rfl, by simp only; rw [ddN_eq (by omega) (by rw [hx, hy, hxy]), ddN_take h3 h4], rfl⟩ ?_
  rintro ⟨i, m, cur⟩ ⟨g1, g2, g3, g4, g5, g6⟩
  simp only at g1 g2 g3 g4 g5 g6
  simp only
  by_cases hm : k + m < l.length
  · obtain ⟨a, ha⟩ := get_of hm
    obtain ⟨b, hb⟩ := get_of (l := l) (i := k + m - 1) (by omega)
    have hca : cur[k + m]? = some a := by
      have := congrArg (fun z => z[1]?) g6
      simp only [List.getElem?_drop] at this
      rw [show k + m - 1 + 1 = k + m by omega] at this
      rw [this, ha]
    have hcb : cur[k + (m - 1)]? = some b := by
      have := congrArg (fun z => z[0]?) g6
      simp only [List.getElem?_drop, Nat.add_zero] at this
      rw [show k + (m - 1) = k + m - 1 by omega, this, hb]
    have h7 : cur.drop (k + m) = l.drop (k + m) := by
      have := congrArg (List.drop 1) g6
      rw [List.drop_drop, List.drop_drop] at this
      rwa [show k + m - 1 + 1 = k + m by omega] at this
    obtain ⟨z, hz⟩ := get_of (l := cur) (i := i) (by omega)
    have hm1 : ((m : Int) - 1) = ((m - 1 : Nat) : Int) := by omega
    by_cases hab : a = b
    · repeat' (first | refine Sp.h ?_ | refine Lk.r rfl ?_ | refine Rf.mk rfl ?_ | (apply Bd.t; (focus (first | assumption | omega | rfl))) | refine OpK.r rfl ?_ | (apply TkA.r; (focus (repeat (first | exact Take.here | apply Take.there)))) | (apply At.r; (focus assumption)) | refine Rf.mk ⟨rfl, rfl⟩ ?_ | (apply CA.draw; (focus rfl); (focus kernel_rfl); (focus kernel_rfl); (focus repeat' (first | apply ON.one | exact ON.done | exact ON.none | apply ON.alt)); (focus rfl)) | (apply Sx.r; (focus exact rfl); (focus first | omega | (simp; omega))) | (apply Ov.n; (focus first | omega | (simp <;> omega))) | (apply Sx.r; (focus assumption); (focus first | omega | (simp; omega))) | fail)
      exact PA.lp (i, m + 1, cur) ⟨by (repeat (first | exact trivial | refine ⟨rfl, ?_⟩)), by (repeat (first | exact Subl.nil | refine Subl.cons (by (repeat (first | exact Take.here | apply Take.there))) ?_))⟩ ⟨⟨by simp only; omega, by simp only; omega, by simp only; omega, g4, by simp only; rw [← Nat.add_assoc, ddN_eq (by omega) (by rw [ha, hb, hab])]; exact g5, by simp only; rw [show k + (m + 1) - 1 = k + m by omega]; exact h7⟩, by simp only; omega⟩
    · repeat' (first | refine Sp.h ?_ | refine Lk.r rfl ?_ | refine Rf.mk rfl ?_ | (apply Bd.t; (focus (first | assumption | omega | rfl))) | (apply Bd.f; (focus (first | assumption | omega | exact Bool.false_ne_true))) | refine OpK.r rfl ?_ | (apply TkA.r; (focus (repeat (first | exact Take.here | apply Take.there)))) | (apply Ix.q; (focus exact rfl); (focus assumption)) | (apply At.r; (focus assumption)) | (apply SetAk.r; (focus (repeat (first | assumption | exact SetA.z | apply SetA.s)))) | refine Rf.mk ⟨rfl, rfl⟩ ?_ | refine Up.r rfl ?_ | (apply CA.draw; (focus rfl); (focus kernel_rfl); (focus kernel_rfl); (focus repeat' (first | apply ON.one | exact ON.done | exact ON.none | apply ON.alt)); (focus rfl)) | (apply Sx.r; (focus exact rfl); (focus first | omega | (simp; omega))) | (apply Ov.n; (focus first | omega | (simp <;> omega))) | (apply Sx.r; (focus assumption); (focus first | omega | (simp; omega))) | fail)
      have h8 : (cur.set i a).take (i + 1) = cur.take i ++ [a] := by
        rw [List.take_add_one, List.getElem?_set, if_pos rfl, if_pos (by omega), List.take_set_of_le (Nat.le_refl _)]; rfl
      refine PA.lp (i + 1, m + 1, cur.set i a) ⟨by (repeat (first | exact trivial | refine ⟨rfl, ?_⟩)), by (repeat (first | exact Subl.nil | refine Subl.cons (by (repeat (first | exact Take.here | apply Take.there))) ?_))⟩ ⟨⟨by simp only; omega, by simp only; omega, by simp only; omega, by simp only; rw [List.length_set]; exact g4, ?_, ?_⟩, by simp only; omega⟩
      · simp only
        rw [h8, g5, ← Nat.add_assoc, ddN_ne ha (fun _ => by rw [ha, hb]; exact fun e => hab (by cases e; rfl))]
      · simp only
        rw [show k + (m + 1) - 1 = k + m by omega, List.drop_set_of_lt (by omega)]; exact h7
  · have hme : k + m = l.length := by omega
    rw [hme] at g5
    (repeat' (first | (show CA _ _ (Code.region 14 _ _) _ _; apply Stopped.out) | refine Sp.h ?_ | refine Lk.r rfl ?_ | refine Rf.mk rfl ?_ | (apply Bd.f; (focus (first | assumption | omega | exact Bool.false_ne_true))) | fail)); any_goals apply Stopped.mk
    apply CA.retype (m := cur.map vI) (g := valR)
    focus (repeat (first | exact Take.here | apply Take.there))
    focus exact vI_map cur
    apply CA.toX 0
    focus rfl
    focus (repeat (first | exact Take.here | apply Take.there))
    intro hcap
    rw [List.length_map] at hcap
    (repeat' (first | (show CA _ _ Code.ret _ _; apply Stopped.out) | refine Sp.h ?_ | refine Lk.r rfl ?_ | refine Rf.mk rfl ?_ | (apply Om.mk; (focus first | omega | (simp <;> omega))) | refine Rf.mk ⟨rfl, rfl⟩ ?_ | refine Rf.mk ⟨rfl, rfl, rfl⟩ ?_ | (apply Jx.r; (focus exact rfl); (focus first | omega | (simp; done) | (simp; omega))) | (apply TkX.r; (focus (repeat (first | exact Take.here | apply Take.there)))) | (apply ExX.short; (focus rfl); (focus first | omega | (simp <;> omega)); (focus first | omega | (simp <;> omega))) | fail)); any_goals apply Stopped.mk
    apply CA.retype (m := dd l) (g := i1)
    focus (repeat (first | exact Take.here | apply Take.there))
    focus (rw [dd, ← g5, ← vI_map, List.map_take]; simp [List.take_take])
    repeat' (first | refine Sp.h ?_ | refine Lk.r rfl ?_ | (apply Nm.r; (focus repeat (first | apply LN.cons | exact LN.nil))) | fail)
    exact ⟨_, _, .one (.same (.nil (by (repeat (first | exact Subl.nil | refine Subl.cons (by (repeat (first | exact Take.here | apply Take.there))) ?_))))), _, rfl, rfl⟩
end Go.Proofs.YtpgpdmmobblffaaGreat
namespace Go.Proofs.YtpgpdmmobblffaaGreat
open Go Go.CF
set_option maxRecDepth 20000
def iniT (t : TblS) : Int := min (max 0 t.lo) t.hi
noncomputable def srtD (l : List Int) : List Int := dd (srtI l)
theorem srtI_len (l : List Int) : (srtI l).length = l.length := by simp [srtI]
theorem srtD_len (l : List Int) : (srtD l).length ≤ l.length := by
  have := ddN_len (l := srtI l) (srtI l).length
  rw [srtI_len] at this
  rw [srtD, dd, srtI_len]; exact this
noncomputable def valK (t : TblS) (g : MgS) : List Int := if t.kind = 2 ∨ t.kind = 3 then setV t g else if g.marks.length = 0 then [iniT t] else srtD (g.marks.map MkS.val)
set_option maxHeartbeats 1000000 in
theorem valuesR_p (t : TblS) (g : MgS) (hk : ¬ (t.kind = 2 ∨ t.kind = 3)) (hl : g.marks.length ≤ 100000) : CallP Tryz.prog 45 [.agg (tblC t), .agg (mgC g)] (ints (valK t g)) := by
  have h1 : t.kind ≠ 2 := fun h => hk (.inl h)
  have h2 : t.kind ≠ 3 := fun h => hk (.inr h)
  by_cases h0 : g.marks.length = 0
  · have hv : valK t g = [iniT t] := by rw [valK, if_neg hk, if_pos h0]
    rw [hv]
    refine CallA.fz (T := 3) (by simp) ?_
    refine CallA.of pg ord45 Tryz.func45 rfl Tryz.ntmps45 Tryz.results45 rfl fun h0 G0 O0 => ?_
    (repeat' (first | (show CA _ _ Code.ret _ _; apply Stopped.out) | refine Sp.h ?_ | refine Lk.r rfl ?_ | refine Rf.mk rfl ?_ | (apply Bd.t; (focus (first | assumption | omega | rfl))) | (apply Bd.f; (focus (first | assumption | omega | exact Bool.false_ne_true))) | (refine Im.mk ?_; intro _) | (refine All.mk ?_; intro _) | (apply TkB.r; (focus (repeat (first | exact Take.here | apply Take.there)))) | (apply Fk.r; (focus (repeat (first | exact FillA.nil | (apply FillA.agg; (focus rfl); (focus rfl); (focus (repeat (first | exact SetAs.z | (apply SetAs.c; (focus (repeat (first | assumption | exact SetA.z | apply SetA.s)))))))) | (apply FillA.one; (focus rfl); (focus infer_instance); (focus (repeat (first | assumption | exact SetA.z | apply SetA.s)))))))) | refine Rf.mk ⟨rfl, rfl, rfl⟩ ?_ | fail)); any_goals apply Stopped.mk
    apply CA.retype (m := [iniT t]) (g := i1)
    focus (repeat (first | exact Take.here | apply Take.there))
    focus rfl
    repeat' (first | refine Sp.h ?_ | refine Lk.r rfl ?_ | (apply Nm.r; (focus repeat (first | apply LN.cons | exact LN.nil))) | fail)
    exact ⟨_, _, .one (.same (.nil (by (repeat (first | exact Subl.nil | refine Subl.cons (by (repeat (first | exact Take.here | apply Take.there))) ?_))))), _, rfl, rfl⟩
  · have hv : valK t g = srtD (g.marks.map MkS.val) := by rw [valK, if_neg hk, if_neg h0]
    have hln := srtD_len (g.marks.map MkS.val)
    rw [List.length_map] at hln
    rw [hv]
    refine CallA.fz (T := 3) (by omega) ?_
    refine CallA.of pg ord45 Tryz.func45 rfl Tryz.ntmps45 Tryz.results45 rfl fun h0 G0 O0 => ?_
    repeat' (first | refine Sp.h ?_ | refine Lk.r rfl ?_ | refine Rf.mk rfl ?_ | (apply Bd.f; (focus (first | assumption | omega | exact Bool.false_ne_true))) | (refine Im.mk ?_; intro _) | (refine All.mk ?_; intro _) | (apply TkB.r; (focus (repeat (first | exact Take.here | apply Take.there)))) | fail)
    refine CA.nilOwn 5 3 1 i1 rfl fun v => ?_
    refine CA.loop (fun x : Nat × Value => ⟨[(5, .ow x.2), (54, mks g.marks), (55, it (g.marks.length : Nat)), (56, it x.1)], [arrR x.2 3 1 ((g.marks.take x.1).map MkS.val) i1]⟩) (fun x => x.1 ≤ g.marks.length) (fun x => g.marks.length - x.1) (0, v) ⟨by (repeat (first | exact trivial | refine ⟨rfl, ?_⟩)), by (repeat (first | exact Subl.nil | refine Subl.cons (by (repeat (first | exact Take.here | apply Take.there))) ?_))⟩ (Nat.zero_le _) ?_
    rintro ⟨i, w⟩ hi
    simp only at hi
    simp only
    by_cases hin : i < g.marks.length
    · obtain ⟨x, hx⟩ := get_of hin
      have hsu : (g.marks.take (i + 1)).map MkS.val = (g.marks.take i).map MkS.val ++ [x.val] := by rw [List.take_add_one, hx]; simp
      repeat' (first | refine Sp.h ?_ | refine Lk.r rfl ?_ | refine Rf.mk rfl ?_ | (apply Bd.t; (focus (first | assumption | omega | rfl))) | (apply Om.mk; (focus first | omega | (simp <;> omega))) | (refine All.mk ?_; intro _) | (apply TkA.r; (focus (repeat (first | exact Take.here | apply Take.there)))) | (apply TkB.r; (focus (repeat (first | exact Take.here | apply Take.there)))) | (apply Ix.q; (focus exact rfl); (focus assumption)) | refine Ce.r ?_ | refine Ch.l ⟨rfl, rfl⟩ ?_ | (apply SetAsk.r; (focus (repeat (first | exact SetAs.z | (apply SetAs.c; (focus (repeat (first | assumption | exact SetA.z | apply SetA.s)))))))) | (apply Fk.r; (focus (repeat (first | exact FillA.nil | (apply FillA.agg; (focus rfl); (focus rfl); (focus (repeat (first | exact SetAs.z | (apply SetAs.c; (focus (repeat (first | assumption | exact SetA.z | apply SetA.s)))))))) | (apply FillA.one; (focus rfl); (focus infer_instance); (focus (repeat (first | assumption | exact SetA.z | apply SetA.s)))))))) | (apply Nm.r; (focus repeat (first | apply LN.cons | exact LN.nil))) | refine Rf.mk ⟨rfl, rfl⟩ ?_ | refine Rf.mk ⟨rfl, rfl, rfl⟩ ?_ | (apply Mp.lit; (focus repeat (first | exact MpL.nil | (apply MpL.cons; (focus rfl)) | (apply MpL.inv; (focus repeat (first | apply LN.cons | exact LN.nil)); (focus infer_instance))))) | (apply Ov.n; (focus first | omega | (simp <;> omega))) | fail)
      rw [← hsu]
      exact PA.lp (i + 1, _) ⟨by (repeat (first | exact trivial | refine ⟨rfl, ?_⟩)), by (repeat (first | exact Subl.nil | refine Subl.cons (by (repeat (first | exact Take.here | apply Take.there))) ?_))⟩ ⟨hin, by simp only; omega⟩
    · have hie : i = g.marks.length := by omega
      subst hie
      rw [List.take_length]
      have hso := sortInt_a w 3 (g.marks.map MkS.val) (by simp; omega)
      have hco := compactI_a w (srtI (g.marks.map MkS.val)) (by rw [srtI_len]; simp; omega)
      repeat' (first | refine Sp.h ?_ | refine Lk.r rfl ?_ | refine Rf.mk rfl ?_ | (apply Bd.f; (focus (first | assumption | omega | exact Bool.false_ne_true))) | fail)
      (apply Cl.use (hso); (focus repeat' (first | exact Lend.nil | apply Lend.keep | fail)); (focus (repeat (first | exact Takes.nil | (apply Takes.cons; (focus (repeat (first | exact Take.here | apply Take.there))))))); (focus rfl))
      rintro _ _ ⟨rfl, rfl⟩
      repeat' (first | refine Sp.h ?_ | refine Lk.r rfl ?_ | refine Rf.mk rfl ?_ | fail)
      (apply Cl.use (hco); (focus repeat' (first | exact Lend.nil | apply Lend.keep | fail)); (focus (repeat (first | exact Takes.nil | (apply Takes.cons; (focus (repeat (first | exact Take.here | apply Take.there))))))); (focus rfl))
      rintro _ _ ⟨w2, rfl, rfl⟩
      repeat' (first | refine Sp.h ?_ | refine Lk.r rfl ?_ | (apply Nm.r; (focus repeat (first | apply LN.cons | exact LN.nil))) | fail)
      exact ⟨_, _, .one (.same (.nil (by (repeat (first | exact Subl.nil | refine Subl.cons (by (repeat (first | exact Take.here | apply Take.there))) ?_))))), _, rfl, rfl⟩
theorem values_p (t : TblS) (g : MgS) (hl : g.marks.length ≤ 100000) : CallP Tryz.prog 45 [.agg (tblC t), .agg (mgC g)] (ints (valK t g)) := by
  by_cases h : t.kind = 2 ∨ t.kind = 3
  · rw [valK, if_pos h]; exact valuesS_p t g h
  · exact valuesR_p t g h hl
end Go.Proofs.YtpgpdmmobblffaaGreat
namespace Go.Proofs.YtpgpdmmobblffaaGreat
open Go Go.CF
set_option maxRecDepth 20000
noncomputable def valsF (ts : List TblS) (l : List MgS) : List (List Int) := (ts.zip l).map fun p => valK p.1 p.2
theorem valsF_succ {ts : List TblS} {l : List MgS} {i : Nat} {t : TblS} {g : MgS} (ht : ts[i]? = some t) (hg : l[i]? = some g) : valsF (ts.take (i + 1)) (l.take (i + 1)) = valsF (ts.take i) (l.take i) ++ [valK t g] := by
  have h1 := (List.getElem?_eq_some_iff.1 ht).1
  have h2 := (List.getElem?_eq_some_iff.1 hg).1
  rw [List.take_add_one, List.take_add_one, ht, hg, valsF, Option.toList_some, Option.toList_some, List.zip_append (by simp; omega), List.map_append]
  rfl
theorem valsF_len (ts : List TblS) (l : List MgS) : (valsF ts l).length = min ts.length l.length := by simp [valsF]
theorem valL_len {ts : List TblS} {l : List MgS} (hv : ValL ts l) {i : Nat} {t : TblS} {g : MgS} (ht : ts[i]? = some t) (hg : l[i]? = some g) : g.marks.length ≤ 1024 := (hv.2 i t g ht hg).1.2.2.2
theorem valuesM_p (m : ModS) (l : List MgS) (hm : LayOK m.sorts m.tables) (hv : ValL (mrgF m) l) (hl : (mrgF m).length ≤ 1000) :
    CallP Tryz.prog 14 [mdl m, mgs l] (.tup [clks (valsF (mrgF m) l), it 0]) := by
  refine CallA.fzt (T := 22) (by rw [valsF_len]; omega) ?_
  have hva := validM_p m l hm
  have hce := cells_p m hm
  have hlen := hv.1
  refine CallA.of pg ord14 Tryz.func14 rfl Tryz.ntmps14 Tryz.results14 rfl fun h0 G0 O0 => ?_
  repeat' (first | refine Sp.h ?_ | refine Lk.r rfl ?_ | refine Rf.mk rfl ?_ | (apply Bd.t; (focus (first | assumption | omega | rfl))) | (refine Im.mk ?_; intro _) | (refine All.mk ?_; intro _) | (apply TkB.r; (focus (repeat (first | exact Take.here | apply Take.there)))) | refine Ch.l ⟨rfl, rfl⟩ ?_ | fail | (apply Cl.p (hva); (focus repeat' (first | exact Lend.nil | apply Lend.keep | fail))) | (apply Cl.p (hce); (focus repeat' (first | exact Lend.nil | apply Lend.keep | fail))))
  refine CA.nilOwn 6 22 1 clkC rfl fun v => ?_
  refine CA.loop (fun x : Nat × Value => ⟨[(1, mgs l), (6, .ow x.2), (14, tbls (mrgF m)), (15, it ((mrgF m).length : Nat)), (16, it x.1)], [arrR x.2 22 1 (valsF ((mrgF m).take x.1) (l.take x.1)) clkC]⟩) (fun x => x.1 ≤ (mrgF m).length) (fun x => (mrgF m).length - x.1) (0, v) ⟨by (repeat (first | exact trivial | refine ⟨rfl, ?_⟩)), by (repeat (first | exact Subl.nil | refine Subl.cons (by (repeat (first | exact Take.here | apply Take.there))) ?_))⟩ (Nat.zero_le _) ?_
  rintro ⟨i, w⟩ hi
  simp only at hi
  simp only
  by_cases hin : i < (mrgF m).length
  · obtain ⟨t, ht⟩ := get_of hin
    obtain ⟨g, hg⟩ := get_of (l := l) (i := i) (by omega)
    have hsu := valsF_succ ht hg
    have hva := values_p t g (by have := valL_len hv ht hg; omega)
    have hln : (valsF ((mrgF m).take i) (l.take i)).length ≤ 1000 := by rw [valsF_len]; simp; omega
    repeat' (first | refine Sp.h ?_ | refine Lk.r rfl ?_ | refine Rf.mk rfl ?_ | (apply Bd.t; (focus (first | assumption | omega | rfl))) | refine OpK.r rfl ?_ | (apply Om.mk; (focus first | omega | (simp <;> omega))) | (refine All.mk ?_; intro _) | (apply TkA.r; (focus (repeat (first | exact Take.here | apply Take.there)))) | (apply TkB.r; (focus (repeat (first | exact Take.here | apply Take.there)))) | (apply Ix.q; (focus exact rfl); (focus assumption)) | refine Ce.r ?_ | refine Ch.l ⟨rfl, rfl⟩ ?_ | (apply SetAsk.r; (focus (repeat (first | exact SetAs.z | (apply SetAs.c; (focus (repeat (first | assumption | exact SetA.z | apply SetA.s)))))))) | (apply Fk.r; (focus (repeat (first | exact FillA.nil | (apply FillA.agg; (focus rfl); (focus rfl); (focus (repeat (first | exact SetAs.z | (apply SetAs.c; (focus (repeat (first | assumption | exact SetA.z | apply SetA.s)))))))) | (apply FillA.one; (focus rfl); (focus infer_instance); (focus (repeat (first | assumption | exact SetA.z | apply SetA.s)))))))) | (apply Nm.r; (focus repeat (first | apply LN.cons | exact LN.nil))) | refine Rf.mk ⟨rfl, rfl⟩ ?_ | refine Rf.mk ⟨rfl, rfl, rfl⟩ ?_ | (apply Mp.lit; (focus repeat (first | exact MpL.nil | (apply MpL.cons; (focus rfl)) | (apply MpL.inv; (focus repeat (first | apply LN.cons | exact LN.nil)); (focus infer_instance))))) | (apply CA.draw; (focus rfl); (focus kernel_rfl); (focus kernel_rfl); (focus repeat' (first | apply ON.one | exact ON.done | exact ON.none | apply ON.alt)); (focus rfl)) | (apply Ov.n; (focus first | omega | (simp <;> omega))) | fail | (apply Cl.p (hva); (focus repeat' (first | exact Lend.nil | apply Lend.keep | fail))))
    rw [← hsu]
    exact PA.lp (i + 1, _) ⟨by (repeat (first | exact trivial | refine ⟨rfl, ?_⟩)), by (repeat (first | exact Subl.nil | refine Subl.cons (by (repeat (first | exact Take.here | apply Take.there))) ?_))⟩ ⟨hin, by simp only; omega⟩
  · have hie : i = (mrgF m).length := by omega
    subst hie
    rw [List.take_length, List.take_of_length_le (l := l) (by omega)]
    repeat' (first | refine Sp.h ?_ | refine Lk.r rfl ?_ | refine Rf.mk rfl ?_ | (apply Bd.f; (focus (first | assumption | omega | exact Bool.false_ne_true))) | (apply Nm.r; (focus repeat (first | apply LN.cons | exact LN.nil))) | fail)
    exact ⟨_, _, .tup (.same (.same (.nil (by (repeat (first | exact Subl.nil | refine Subl.cons (by (repeat (first | exact Take.here | apply Take.there))) ?_)))))), _, rfl, rfl⟩
end Go.Proofs.YtpgpdmmobblffaaGreat
