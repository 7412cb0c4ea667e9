/- Part 11 of the ground of this proof: what its texts say of the model, the program and the plain data; conditions: those that are named. -/
import Derived.Test.YtpgpdmmobblffaaGreatP10
namespace Go.Proofs.YtpgpdmmobblffaaGreat
open Go Go.CF
set_option maxRecDepth 20000
theorem fg_mem {c : List Int} {l : List MkS} {x : MkS} : x ∈ fgK c l ↔ x ∈ l ∧ ¬ HasC c x.rep x.num := by simp [fgK, List.mem_filter]
theorem fg_comm (c d : List Int) (l : List MkS) : fgK c (fgK d l) = fgK d (fgK c l) := by
  unfold fgK
  rw [List.filter_filter, List.filter_filter]
  congr 1
  funext x
  exact Bool.and_comm _ _
theorem fg_all {c : List Int} {l : List MkS} (h : ¬ ∃ x ∈ l, HasC c x.rep x.num) : fgK c l = l := List.filter_eq_self.2 fun x hx => by
  simp only [Bool.not_eq_true', decide_eq_false_iff_not]
  exact fun h9 => h ⟨x, hx, h9⟩
theorem fg_len_ne {c : List Int} {l : List MkS} (h : ∃ x ∈ l, HasC c x.rep x.num) : (fgK c l).length ≠ l.length := fun h9 => by
  have : fgK c l = l := List.Sublist.eq_of_length List.filter_sublist h9
  obtain ⟨x, hx, hh⟩ := h
  rw [← this] at hx
  exact (fg_mem.1 hx).2 hh
noncomputable def oldK (c : List Int) (l : List MkS) : Bool := @decide (∃ x ∈ l, HasC c x.rep x.num) (Classical.propDecidable _)
theorem oldK_t {c : List Int} {l : List MkS} : oldK c l = true ↔ ∃ x ∈ l, HasC c x.rep x.num := by unfold oldK; exact @decide_eq_true_iff _ (Classical.propDecidable _)
theorem oldK_eq {c : List Int} {l l' : List MkS} (h : (∃ x ∈ l, HasC c x.rep x.num) ↔ ∃ x ∈ l', HasC c x.rep x.num) : oldK c l = oldK c l' := Bool.eq_iff_iff.2 (oldK_t.trans (h.trans oldK_t.symm))
theorem setG_2 {c : List Int} {t : TblS} {g : MgS} (k : t.kind = 2) (hp : g.put = false) : setG c t g = ⟨oldK c g.marks, g.drop, fgK c g.marks⟩ := by
  have hr : ¬ isReg t.kind := by unfold isReg; omega
  by_cases h : ∃ x ∈ g.marks, HasC c x.rep x.num
  · rw [setG, if_neg (fun h9 => h9.elim hr (fg_len_ne h)), if_pos k, oldK_t.2 h]
  · have : oldK c g.marks = false := Bool.eq_false_iff.2 fun h9 => h (oldK_t.1 h9)
    rw [setG, if_pos (.inr (by rw [fg_all h])), this, fg_all h, ← hp]
theorem setG_3 {c : List Int} {t : TblS} {g : MgS} (k : t.kind = 3) (hd : g.drop = false) : setG c t g = ⟨g.put, oldK c g.marks, fgK c g.marks⟩ := by
  have hr : ¬ isReg t.kind := by unfold isReg; omega
  by_cases h : ∃ x ∈ g.marks, HasC c x.rep x.num
  · rw [setG, if_neg (fun h9 => h9.elim hr (fg_len_ne h)), if_neg (by omega), oldK_t.2 h]
  · have : oldK c g.marks = false := Bool.eq_false_iff.2 fun h9 => h (oldK_t.1 h9)
    rw [setG, if_pos (.inr (by rw [fg_all h])), this, fg_all h, ← hd]
theorem setG_r {c : List Int} {t : TblS} {g : MgS} (k : isReg t.kind) : setG c t g = g := if_pos (.inl k)
theorem Kn.put2 {m : ModS} {t : TblS} {i : Nat} {P : List EvS} {g : MgS} (h : Kn m t i P g) (k : t.kind ≠ 3) : g.put = false := by
  cases hp : g.put
  · rfl
  · exact absurd (h.put.1 hp).1 k
/-- One more event, with what is settled. -/
theorem set_step {m : ModS} {t : TblS} {i : Nat} {P : List EvS} {g : MgS} {e : EvS} {k : List Int} (hk : Kd t) (h : Kn m t i P g) (hl : g.marks.length < 1024) (hn : Nxt P e) (hi : ∀ r n, HasC k r n → HasC e.past r n) :
    cellF e t (updE m e i) (setG k t g) = (0, setG k t (cellF e t (updE m e i) g).2) := by
  cases hu : updE m e i with
  | none => rfl
  | some u =>
    have hno : ¬ HasNm g.marks (mkE t e u) := fun ⟨x, hx, hxn⟩ => by
      obtain ⟨p, hp, w, _, _, rfl⟩ := h.mem hx
      exact hn.nm p hp hxn
    have hek : ¬ HasC k e.rep e.num := fun h9 => hn.self (hi _ _ h9)
    have hno2 : ¬ HasNm (fgK k g.marks) (mkE t e u) := fun ⟨x, hx, hxn⟩ => hno ⟨x, (fg_mem.1 hx).1, hxn⟩
    have hfl : (fgK k g.marks).length ≤ g.marks.length := List.length_filter_le _ _
    have hadd : addF g.marks (mkE t e u) = (0, insK g.marks (mkE t e u)) := by rw [addF, if_neg hno, if_neg (by omega)]
    have hadd2 : addF (fgK k g.marks) (mkE t e u) = (0, insK (fgK k g.marks) (mkE t e u)) := by rw [addF, if_neg hno2, if_neg (by omega)]
    obtain ⟨i1, i2⟩ := ins_lt h.srt hno
    obtain ⟨j1, j2⟩ := ins_lt (l := fgK k g.marks) (h.srt.filter _) hno2
    have hins : fgK k (insK g.marks (mkE t e u)) = insK (fgK k g.marks) (mkE t e u) := by
      refine pw_uniq LtK_asymm _ _ (i1.filter _) j1 fun x => ?_
      rw [fg_mem, i2, j2, fg_mem]
      constructor
      · rintro ⟨h1 | h1, h2⟩
        · exact .inl ⟨h1, h2⟩
        · exact .inr h1
      · rintro (⟨h1, h2⟩ | rfl)
        · exact ⟨.inl h1, h2⟩
        · exact ⟨.inr rfl, hek⟩
    have hold : oldK k (insK g.marks (mkE t e u)) = oldK k g.marks := oldK_eq ⟨fun ⟨x, hx, hh⟩ => by
        rcases (i2 x).1 hx with h9 | rfl
        · exact ⟨x, h9, hh⟩
        · exact absurd hh hek, fun ⟨x, hx, hh⟩ => ⟨x, (i2 x).2 (.inl hx), hh⟩⟩
    have hpast : oldK k (fgK e.past g.marks) = false := Bool.eq_false_iff.2 fun h9 => by
      obtain ⟨x, hx, hh⟩ := oldK_t.1 h9
      exact (fg_mem.1 hx).2 (hi _ _ hh)
    have hmk : mkE t e u = ⟨e.rep, e.num, e.time, if isReg t.kind then u.2.2 else 0⟩ := rfl
    rcases hk with q | q | q | q
    · have hp := h.put2 (by omega)
      have hr : ¬ isReg (2 : Int) := by unfold isReg; omega
      rw [setG_2 q hp]
      by_cases u0 : u.1 = 0
      · have c1 : cellF e t (some u) g = (0, ⟨g.put, g.drop, insK g.marks (mkE t e u)⟩) := by
          simp only [cellF, q, u0, true_and, true_or, if_true]
          rw [← q, ← hmk, hadd]
        have c2 : cellF e t (some u) ⟨oldK k g.marks, g.drop, fgK k g.marks⟩ = (0, ⟨oldK k g.marks, g.drop, insK (fgK k g.marks) (mkE t e u)⟩) := by
          simp only [cellF, q, u0, true_and, true_or, if_true]
          rw [← q, ← hmk, hadd2]
        rw [c1, c2, setG_2 q (by exact hp)]
        simp only [hold, hins]
      by_cases u1 : u.1 = 1
      · have c : ∀ g : MgS, cellF e t (some u) g = (0, ⟨false, g.drop, fgK e.past g.marks⟩) := fun g => by simp [cellF, q, u1]
        rw [c, c, setG_2 q rfl]
        simp only [hpast, fg_comm]
      · have c : ∀ g : MgS, cellF e t (some u) g = (0, g) := fun g => by simp [cellF, q, u0, u1]
        rw [c, c, setG_2 q hp]
    · rw [setG_3 q h.drop]
      by_cases u1 : u.1 = 1
      · have c1 : cellF e t (some u) g = (0, ⟨g.put, g.drop, insK g.marks (mkE t e u)⟩) := by
          simp only [cellF, q, u1, true_and, or_true, if_true]
          rw [← q, ← hmk, hadd]
        have c2 : cellF e t (some u) ⟨g.put, oldK k g.marks, fgK k g.marks⟩ = (0, ⟨g.put, oldK k g.marks, insK (fgK k g.marks) (mkE t e u)⟩) := by
          simp only [cellF, q, u1, true_and, or_true, if_true]
          rw [← q, ← hmk, hadd2]
        rw [c1, c2, setG_3 q (by exact h.drop)]
        simp only [hold, hins]
      by_cases u0 : u.1 = 0
      · have c : ∀ g : MgS, cellF e t (some u) g = (0, ⟨true, false, fgK e.past g.marks⟩) := fun g => by simp [cellF, q, u0]
        rw [c, c, setG_3 q rfl]
        simp only [hpast, fg_comm]
      · have c : ∀ g : MgS, cellF e t (some u) g = (0, g) := fun g => by simp [cellF, q, u0, u1]
        rw [c, c, setG_3 q h.drop]
    · have hr : isReg t.kind := .inl q
      obtain ⟨g', h1, _⟩ := cell_step (.inr (.inr (.inl q))) h hl hn
      rw [hu] at h1
      rw [setG_r hr, setG_r hr, h1]
    · have hr : isReg t.kind := .inr q
      obtain ⟨g', h1, _⟩ := cell_step (.inr (.inr (.inr q))) h hl hn
      rw [hu] at h1
      rw [setG_r hr, setG_r hr, h1]
theorem set_valG {t : TblS} {g : MgS} {k : List Int} (hk : Kd t) (h : ValG t g) : ValG t (setG k t g) := by
  unfold setG
  split
  · exact h
  · rename_i hn
    have hs : GoodK (fgK k g.marks) := ⟨h.good.1.filter _, h.good.2.filter _⟩
    have hfl : (fgK k g.marks).length ≤ g.marks.length := List.length_filter_le _ _
    have hR : ∀ x ∈ fgK k g.marks, RightK t x := fun x hx => by
      obtain ⟨i, hi⟩ := List.getElem?_of_mem (fg_mem.1 hx).1
      exact (h.2 i x (List.getElem?_eq_some_iff.1 hi).1 hi).1
    have hM : MksTo t (fgK k g.marks) (fgK k g.marks).length := fun j x hj hx => by
      refine ⟨hR x (List.mem_of_getElem? hx), fun q y hq hy => ?_, fun y hq hy h9 => ?_⟩
      · obtain ⟨j1, rfl⟩ := List.getElem?_eq_some_iff.1 hx
        obtain ⟨q1, rfl⟩ := List.getElem?_eq_some_iff.1 hy
        exact List.pairwise_iff_getElem.1 hs.2 q j q1 j1 hq
      · obtain ⟨j1, rfl⟩ := List.getElem?_eq_some_iff.1 hx
        obtain ⟨q1, rfl⟩ := List.getElem?_eq_some_iff.1 hy
        exact LtK_asymm _ _ h9 (List.pairwise_iff_getElem.1 hs.1 (j - 1) j q1 j1 (by omega))
    have hnr : ¬ isReg t.kind := fun h9 => hn (.inl h9)
    obtain ⟨⟨a1, a2, a3, a4⟩, -⟩ := h
    split
    · rename_i h2
      exact ⟨⟨a1, fun h9 => hnr h9.2, fun h9 => by omega, by simp only; omega⟩, hM⟩
    · rename_i h2
      have h3 : t.kind = 3 := by unfold isReg at hnr; unfold Kd at hk; omega
      exact ⟨⟨fun _ => h3, fun h9 => hnr h9.2, fun h9 => by omega, by simp only; omega⟩, hM⟩
theorem set_valL {m : ModS} {l : List MgS} {k : List Int} (hm : LayOK m.sorts m.tables) (h : ValL (mrgF m) l) : ValL (mrgF m) (setF k (mrgF m) l) := by
  refine ⟨by rw [setF_len, h.1]; simp, fun i t g ht hg => ?_⟩
  obtain ⟨g0, hg0⟩ := get_of (l := l) (i := i) (by rw [← h.1]; exact (List.getElem?_eq_some_iff.1 ht).1)
  rw [setF_at ht hg0] at hg
  cases hg
  exact set_valG (kd_of hm ht) (h.2 i t g0 ht hg0)
end Go.Proofs.YtpgpdmmobblffaaGreat
namespace Go.CF
open Go
/-- What some rows of values are. -/
def rawR {α : Type} (sz : Nat) (L : List (List Value)) (l : List α) (f : α → List AV) : Res :=
  ⟨fun h O G => (∀ b, ¬ O b) ∧ Rows h G sz L l f, fun x ⟨ho, r⟩ => ⟨ho, r.stp (x.mono fun _ => .inr)⟩, fun x ⟨ho, r⟩ => ⟨ho, r.mono x⟩⟩
section
variable {Γ : Cx} {k : List KI} {e : EA} {o : List Res}
theorem CA.toRows {α : Type} {y : Code} {v : Value} {T sz : Nat} {l : List α} {f : α → List AV} {rest : List Res} (tk : Take o (arrR v T sz l f) rest)
    (h : ∀ L : List (List Value), L.length = l.length → CA Γ k y e (arrR v T sz L valR :: rawR sz L l f :: rest)) : CA Γ k y e o := by
  refine ⟨fun env hh G Os cn => ?_⟩
  obtain ⟨O, Os', cn2⟩ := cn.take tk
  obtain ⟨⟨ho, rows, hw, hr⟩, hrest⟩ := cn2.hp.own
  have hv : RowsV sz rows := ⟨hr.sz, fun r hm u hu => by
    obtain ⟨j, hj⟩ := List.getElem?_of_mem hm
    obtain ⟨x, hx⟩ : ∃ x, l[j]? = some x := ⟨_, List.getElem?_eq_getElem (by rw [← hr.len]; exact (List.getElem?_eq_some_iff.1 hj).1)⟩
    exact (hr.row j r x hj hx).one u hu⟩
  have hp : HpOK Γ.h0 Γ.G0 Γ.O0 (arrR v T sz rows valR :: rawR sz rows l f :: rest) hh G (O :: (fun _ => False) :: Os') := by
    refine ⟨⟨⟨ho, rows, by rw [hr.len]; exact hw, hv.rows hh G⟩, ⟨fun _ h => h, hr⟩, hrest⟩, cn2.hp.g, cn2.hp.g0, fun X hX b hb => ?_, ?_, cn2.hp.fp⟩
    · rcases List.mem_cons.1 hX with rfl | hX
      · exact cn2.hp.o X (by simp) b hb
      · rcases List.mem_cons.1 hX with rfl | hX
        · exact hb.elim
        · exact cn2.hp.o X (by simp [hX]) b hb
    · obtain ⟨d1, d2⟩ := List.pairwise_cons.1 cn2.hp.d
      refine List.pairwise_cons.2 ⟨fun B hB b hb hb2 => ?_, List.pairwise_cons.2 ⟨fun B hB b hb _ => hb, d2⟩⟩
      rcases List.mem_cons.1 hB with rfl | hB
      · exact hb2
      · exact d1 B hB b hb hb2
  exact (h rows hr.len).h env hh G _ ⟨hp, cn2.env, cn2.nf⟩
theorem CA.ofRows {α : Type} {y : Code} {v : Value} {T sz : Nat} {L L' : List (List Value)} {l : List α} {f : α → List AV} {rest rest2 : List Res} (tk : Take o (arrR v T sz L' valR) rest) (tk2 : Take rest (rawR sz L l f) rest2)
    (Z : List (List Value × α)) (hZ : ∀ z ∈ Z, ∃ i : Nat, L[i]? = some z.1 ∧ l[i]? = some z.2) (h1 : Z.map (·.1) = L') (h : CA Γ k y e (arrR v T sz (Z.map (·.2)) f :: rest2)) : CA Γ k y e o := by
  refine ⟨fun env hh G Os cn => ?_⟩
  obtain ⟨O, Os', cn2⟩ := cn.take tk
  obtain ⟨⟨ho, rows, hw, hr⟩, hrest⟩ := cn2.hp.own
  obtain ⟨X, Os2, r1, r2, r3⟩ := tk2.own hrest
  have e9 := rows_val hr
  subst e9
  have hlen : rows.length = Z.length := by rw [← h1, List.length_map]
  have hrow : Rows hh G sz rows (Z.map (·.2)) f := by
    refine ⟨by rw [hlen, List.length_map], fun i r x e1 e2 => ?_, hr.sz⟩
    rw [← h1, List.getElem?_map] at e1
    rw [List.getElem?_map] at e2
    cases hz : Z[i]? with
    | none => rw [hz] at e1; cases e1
    | some z =>
      rw [hz] at e1 e2
      cases e1; cases e2
      obtain ⟨q, q1, q2⟩ := hZ z (List.mem_of_getElem? hz)
      exact r1.2.row q _ _ q1 q2
  have c4 : HpOK Γ.h0 Γ.G0 Γ.O0 (arrR v T sz rows valR :: rawR sz L l f :: rest2) hh G (O :: X :: Os2) := cn2.hp.perm ⟨cn2.hp.own.1, r1, r2⟩ (List.Perm.cons _ r3)
  have c5 : HpOK Γ.h0 Γ.G0 Γ.O0 (rawR sz L l f :: arrR v T sz rows valR :: rest2) hh G (X :: O :: Os2) := c4.perm ⟨r1, cn2.hp.own.1, r2⟩ (List.Perm.swap _ _ _)
  have c6 := c5.drop
  exact h.h env hh G (O :: Os2) ⟨c6.perm ⟨⟨ho, rows, by rw [List.length_map, ← hlen]; exact hw, hrow⟩, r2⟩ (List.Perm.refl _), cn2.env, cn2.nf⟩
end
end Go.CF
namespace Go.Proofs.YtpgpdmmobblffaaGreat
open Go Go.CF
set_option maxRecDepth 20000
set_option maxHeartbeats 2000000 in
theorem deleteE_a {g : FuncId} {cap : AV} {p : EvS → Bool} (hg : ∀ x, CallP Tryz.prog g [evA' x, cap] (bl (p x))) (he : en g = true) (w : Value) (l : List EvS) (hl : l.length ≤ 1000000) :
    CallA Tryz.prog 26 [.ow w, .fn g [cap]] [eR w l] fun q own => ∃ w', q = .ow w' ∧ own = [eR w' (l.filter fun x => !p x)] := by
  have hix := indexF_p hg he l
  refine CallA.of pg ord26 Tryz.func26 rfl Tryz.ntmps26 Tryz.results26 rfl fun h0 G0 O0 => ?_
  repeat' (first | refine Sp.h ?_ | refine Lk.r rfl ?_ | refine Rf.mk rfl ?_ | fail)
  (apply Cl.lend (hix); (focus repeat' (first | exact Lend.nil | apply Lend.keep | (apply Lend.lend; (focus (repeat (first | exact Take.here | apply Take.there))); (focus first | omega | (simp; omega))) | fail)))
  by_cases hn : idxN p l < l.length
  · have hI : idxI p l = (idxN p l : Nat) := if_pos hn
    rw [hI]
    repeat' (first | refine Sp.h ?_ | refine Lk.r rfl ?_ | refine Rf.mk rfl ?_ | (apply Bd.f; (focus (first | assumption | omega | exact Bool.false_ne_true))) | (apply Ov.n; (focus first | omega | (simp <;> omega))) | fail)
    refine CA.loop (fun x : Nat × Nat × List EvS => ⟨[(0, .ow w), (1, .fn g [cap]), (5, it x.1), (6, it x.2.1)], [eR w x.2.2]⟩)
      (fun x => x.1 < x.2.1 ∧ x.2.1 ≤ l.length ∧ x.2.2.length = l.length ∧ x.2.2.take x.1 = (l.take x.2.1).filter (fun x => !p x) ∧ x.2.2.drop x.2.1 = l.drop x.2.1) (fun x => l.length - x.2.1) (idxN p l, idxN p l + 1, l) ⟨by (repeat (first | exact trivial | refine ⟨rfl, ?_⟩)), by (repeat (first | exact Subl.nil | refine Subl.cons (by (repeat (first | exact Take.here | apply Take.there))) ?_))⟩ ⟨Nat.lt_succ_self _, hn, rfl, (filt_idx hn).symm, rfl⟩ ?_
    rintro ⟨i, j, cur⟩ ⟨h1, h2, h3, h4, h5⟩
    simp only at h1 h2 h3 h4 h5
    simp only
    by_cases hj : j < l.length
    · obtain ⟨x, hx⟩ := get_of hj
      have hcx : cur[j]? = some x := by
        have := congrArg (fun z => z[0]?) h5
        simpa [List.getElem?_drop, hx] using this
      obtain ⟨y, hy⟩ := get_of (l := cur) (i := i) (by omega)
      have h6 : cur.drop (j + 1) = l.drop (j + 1) := by rw [← List.drop_drop, h5, List.drop_drop]
      have h7 : l.take (j + 1) = l.take j ++ [x] := by rw [List.take_add_one, hx]; rfl
      repeat' (first | refine Sp.h ?_ | refine Lk.r rfl ?_ | refine Rf.mk rfl ?_ | (apply Bd.t; (focus (first | assumption | omega | rfl))) | (refine Bd.mk ?_ ?_ <;> intro _) | (refine All.mk ?_; intro _) | (apply TkA.r; (focus (repeat (first | exact Take.here | apply Take.there)))) | (apply TkB.r; (focus (repeat (first | exact Take.here | apply Take.there)))) | (apply Ix.q; (focus exact rfl); (focus assumption)) | (apply At.r; (focus assumption)) | refine Ch.l ⟨rfl, rfl⟩ ?_ | (apply SetAsk.r; (focus (repeat (first | exact SetAs.z | (apply SetAs.c; (focus (repeat (first | assumption | exact SetA.z | apply SetA.s)))))))) | (apply Nm.r; (focus repeat (first | apply LN.cons | exact LN.nil))) | refine Up.r rfl ?_ | (apply Rf.mk; (focus assumption)) | (apply Ov.n; (focus first | omega | (simp <;> omega))) | fail | (apply Cl.p (hg x); (focus repeat' (first | exact Lend.nil | apply Lend.keep | fail))))
      · rename_i hp
        exact PA.lp (i, j + 1, cur) ⟨by (repeat (first | exact trivial | refine ⟨rfl, ?_⟩)), by (repeat (first | exact Subl.nil | refine Subl.cons (by (repeat (first | exact Take.here | apply Take.there))) ?_))⟩ ⟨⟨by simp only; omega, hj, h3, by simp only; rw [h7, List.filter_append, h4]; simp [hp], h6⟩, by simp only; omega⟩
      · rename_i hp
        have hp : p x = false := by simpa using hp
        have h8 : (cur.set i x).take (i + 1) = cur.take i ++ [x] := by
          rw [List.take_add_one, List.getElem?_set, if_pos rfl, if_pos (by omega), List.take_set_of_le (Nat.le_refl _)]; rfl
        exact PA.lp (i + 1, j + 1, cur.set i x) ⟨by (repeat (first | exact trivial | refine ⟨rfl, ?_⟩)), by (repeat (first | exact Subl.nil | refine Subl.cons (by (repeat (first | exact Take.here | apply Take.there))) ?_))⟩ ⟨⟨by simp only; omega, hj, by simp only; rw [List.length_set]; exact h3, by simp only; rw [h7, List.filter_append, h8, h4]; simp [hp], by simp only; rw [List.drop_set_of_lt (by omega)]; exact h6⟩, by simp only; omega⟩
    · have hje : j = l.length := by omega
      subst hje
      rw [List.take_length] at h4
      (repeat' (first | (show CA _ _ (Code.region 11 _ _) _ _; apply Stopped.out) | refine Sp.h ?_ | refine Lk.r rfl ?_ | refine Rf.mk rfl ?_ | (apply Bd.f; (focus (first | assumption | omega | exact Bool.false_ne_true))) | (apply TkA.r; (focus (repeat (first | exact Take.here | apply Take.there)))) | fail)); any_goals apply Stopped.mk
      apply CA.toRows
      focus (repeat (first | exact Take.here | apply Take.there))
      intro L hL
      apply CA.toX 0
      focus rfl
      focus (repeat (first | exact Take.here | apply Take.there))
      intro hcap
      rw [h3] at hL
      (repeat' (first | (show CA _ _ Code.ret _ _; apply Stopped.out) | refine Sp.h ?_ | refine Lk.r rfl ?_ | refine Rf.mk rfl ?_ | (apply Om.mk; (focus first | omega | (simp <;> omega))) | refine Rf.mk ⟨rfl, rfl⟩ ?_ | refine Rf.mk ⟨rfl, rfl, rfl⟩ ?_ | (apply Jx.r; (focus exact rfl); (focus first | omega | (simp; done) | (simp; omega))) | (apply TkX.r; (focus (repeat (first | exact Take.here | apply Take.there)))) | (apply ExX.short; (focus rfl); (focus first | omega | (simp <;> omega)); (focus first | omega | (simp <;> omega))) | fail)); any_goals apply Stopped.mk
      apply CA.ofRows (Z := (L.zip cur).take i)
      focus (repeat (first | exact Take.here | apply Take.there))
      focus (repeat (first | exact Take.here | apply Take.there))
      focus (intro z hz; obtain ⟨q, hq⟩ := List.getElem?_of_mem (List.mem_of_mem_take hz); exact ⟨q, (List.getElem?_zip_eq_some (z := z)).1 hq⟩)
      focus (rw [List.map_take, List.map_fst_zip (by omega)]; simp [List.take_take])
      rw [List.map_take, List.map_snd_zip (by omega), h4]
      repeat' (first | refine Sp.h ?_ | refine Lk.r rfl ?_ | (apply Nm.r; (focus repeat (first | apply LN.cons | exact LN.nil))) | fail)
      exact ⟨_, _, .one (.same (.nil (by (repeat (first | exact Subl.nil | refine Subl.cons (by (repeat (first | exact Take.here | apply Take.there))) ?_))))), _, rfl, rfl⟩
  · have hI : idxI p l = -1 := if_neg hn
    have hall : l.filter (fun x => !p x) = l := List.filter_eq_self.2 fun x hx => by
      have h9 : ¬ ∃ x ∈ l, p x = true := fun h => hn (idxN_lt.2 h)
      cases hpx : p x
      · rfl
      · exact absurd ⟨x, hx, hpx⟩ h9
    rw [hI, hall]
    repeat' (first | refine Sp.h ?_ | refine Lk.r rfl ?_ | refine Rf.mk rfl ?_ | (apply Bd.t; (focus (first | assumption | omega | rfl))) | (apply Nm.r; (focus repeat (first | apply LN.cons | exact LN.nil))) | fail)
    exact ⟨_, _, .one (.same (.nil (by (repeat (first | exact Subl.nil | refine Subl.cons (by (repeat (first | exact Take.here | apply Take.there))) ?_))))), _, rfl, rfl⟩
end Go.Proofs.YtpgpdmmobblffaaGreat
namespace Go.Proofs.YtpgpdmmobblffaaGreat
open Go Go.CF
set_option maxRecDepth 20000
theorem valK_set {m : ModS} {t : TblS} {i : Nat} {P : List EvS} {g : MgS} {k : List Int} (hk : Kd t) (h : Kn m t i P g) : valK t (setG k t g) = valK t g := by
  have hlen : ∀ l : List MkS, (oldK k l || decide (0 < (fgK k l).length)) = decide (0 < l.length) := fun l => by
    apply Bool.eq_iff_iff.2
    rw [Bool.or_eq_true, oldK_t, decide_eq_true_eq, decide_eq_true_eq]
    constructor
    · rintro (⟨x, hx, _⟩ | h)
      · exact List.length_pos_of_mem hx
      · have : (fgK k l).length ≤ l.length := List.length_filter_le _ _
        omega
    · intro h
      obtain ⟨x, hx⟩ := get_of (l := l) (i := 0) h
      have hx := List.mem_of_getElem? hx
      by_cases hh : HasC k x.rep x.num
      · exact .inl ⟨x, hx, hh⟩
      · exact .inr (List.length_pos_of_mem (fg_mem.2 ⟨hx, hh⟩))
  rcases hk with q | q | q | q
  · have hp := h.put2 (by omega)
    rw [setG_2 q hp, valK, valK, if_pos (.inl q), if_pos (.inl q), setV, setV]
    have : ∀ g : MgS, setB t g = (g.put || decide (0 < g.marks.length)) := fun g => if_pos q
    rw [this, this, hp]
    simp only [hlen, Bool.false_or]
  · rw [setG_3 q h.drop, valK, valK, if_pos (.inr q), if_pos (.inr q), setV, setV]
    have : ∀ g : MgS, setB t g = (g.put && !g.drop && decide (g.marks.length = 0)) := fun g => if_neg (by omega)
    rw [this, this, h.drop]
    have h2 : (!oldK k g.marks && decide ((fgK k g.marks).length = 0)) = decide (g.marks.length = 0) := by
      have h9 := hlen g.marks
      by_cases hz : g.marks.length = 0
      · rw [(decide_eq_false (by omega) : decide (0 < g.marks.length) = false), Bool.or_eq_false_iff] at h9
        rw [h9.1, decide_eq_true hz]
        have := h9.2
        rw [decide_eq_false_iff_not] at this
        rw [decide_eq_true (by omega)]; rfl
      · rw [decide_eq_true (by omega : 0 < g.marks.length)] at h9
        rw [decide_eq_false hz]
        rw [Bool.or_eq_true] at h9
        rcases h9 with h9 | h9
        · rw [h9]; rfl
        · rw [decide_eq_true_eq] at h9
          rw [decide_eq_false (by omega), Bool.and_false]
    simp only [Bool.not_false, Bool.and_true, Bool.and_assoc, h2]
  · rw [setG_r (.inl q)]
  · rw [setG_r (.inr q)]
theorem valsF_set {m : ModS} {P : List EvS} {p : List MgS} {k : List Int} (hm : LayOK m.sorts m.tables) (h : KnL m P p) : valsF (mrgF m) (setF k (mrgF m) p) = valsF (mrgF m) p := by
  have hl := h.len
  apply List.ext_getElem?
  intro i
  by_cases hi : i < (mrgF m).length
  · obtain ⟨t, ht⟩ := get_of hi
    obtain ⟨g, hg⟩ := get_of (l := p) (i := i) (by omega)
    have hs := setF_at (c := k) ht hg
    rw [valsF, valsF, List.getElem?_map, List.getElem?_map, (List.getElem?_zip_eq_some (z := (t, setG k t g))).2 ⟨ht, hs⟩, (List.getElem?_zip_eq_some (z := (t, g))).2 ⟨ht, hg⟩]
    show some (valK t (setG k t g)) = some (valK t g)
    rw [valK_set (kd_of hm ht) (h.kn i t g ht hg).1]
  · rw [List.getElem?_eq_none (by rw [valsF_len]; omega), List.getElem?_eq_none (by rw [valsF_len]; omega)]
theorem applyF_all {m : ModS} {l l' : List MgS} {e : EvS} (hv : ValL (mrgF m) l) (he : EvV m (e.past.length : Nat) e) (hl : l'.length = l.length)
    (h : ∀ (i : Nat) t g, (mrgF m)[i]? = some t → l[i]? = some g → ∃ g', cellF e t (updE m e i) g = (0, g') ∧ l'[i]? = some g') : applyF m l e = (0, l') := by
  have hext : ∀ r : List MgS, r.length = l.length → (∀ (i : Nat) t g, (mrgF m)[i]? = some t → l[i]? = some g → r[i]? = some (cellF e t (updE m e i) g).2) → r = l' := fun r hr h2 => by
    apply List.ext_getElem?
    intro i
    by_cases hi : i < l.length
    · obtain ⟨g, hg⟩ := get_of hi
      obtain ⟨t, ht⟩ := get_of (l := mrgF m) (i := i) (by rw [hv.1]; exact hi)
      obtain ⟨g', h1, h3⟩ := h i t g ht hg
      rw [h2 i t g ht hg, h3, h1]
    · rw [List.getElem?_eq_none (by omega), List.getElem?_eq_none (by omega)]
  by_cases hk : e.kind = 0
  · have hup : ∀ i : Nat, updE m e i = updF (usF m e) i := fun i => if_pos hk
    have hat : ∀ (i : Nat) t g, (mrgF m)[i]? = some t → l[i]? = some g → (cellsF (mrgF m) l (usF m e) e)[i]? = some (cellF e t (updE m e i) g) := fun i t g ht hg => by rw [hup]; exact cellsF_at ht hg
    have hall : ∀ p ∈ cellsF (mrgF m) l (usF m e) e, p.1 = 0 := fun p hp => by
      obtain ⟨i, hi⟩ := List.getElem?_of_mem hp
      have hil := (List.getElem?_eq_some_iff.1 hi).1
      rw [cellsF_len] at hil
      obtain ⟨g, hg⟩ := get_of hil
      obtain ⟨t, ht⟩ := get_of (l := mrgF m) (i := i) (by rw [hv.1]; exact hil)
      obtain ⟨g', h1, _⟩ := h i t g ht hg
      rw [hat i t g ht hg, h1] at hi
      cases hi; rfl
    rw [applyF, if_neg (fun h9 => h9 ⟨hv, he⟩), if_neg (fun h9 => h9 hk), gather_end (fun p hp => .inl (hall p hp)), if_neg]
    · rw [hext ((cellsF (mrgF m) l (usF m e) e).map (·.2)) (by rw [List.length_map, cellsF_len]) fun i t g ht hg => by rw [List.getElem?_map, hat i t g ht hg]; rfl]
    · rintro ⟨p, hp, h8⟩
      rw [hall p hp] at h8; cases h8
  · have hup : ∀ i : Nat, updE m e i = none := fun i => if_neg hk
    rw [applyF, if_neg (fun h9 => h9 ⟨hv, he⟩), if_pos hk, hext l rfl fun i t g ht hg => by rw [hup]; exact hg]
/-- The events that have a clock's events in their pasts. -/
noncomputable def laterE (l : List EvS) (k : List Int) : List EvS := (ordE l).filter fun y => !decide (¬ Ins k y.past)
theorem later_mem {l : List EvS} {k : List Int} {e : EvS} : e ∈ laterE l k ↔ e ∈ l ∧ Ins k e.past := by
  simp [laterE, List.mem_filter, ordE_mem]
/-- One later event, with what is known and with what is settled. -/
theorem later_step {m : ModS} {l : List EvS} {k : List Int} (hs : SuitE m l) (hl : l.length ≤ 100) (hp : Part l k) {j : Nat} {p : List MgS} {y : EvS} (hy : (laterE l k)[j]? = some y) (hK : KnL m (ordE (cutL l k) ++ (laterE l k).take j) p) :
    ∃ p', applyF m p y = (0, p') ∧ applyF m (setF k (mrgF m) p) y = (0, setF k (mrgF m) p') ∧ KnL m (ordE (cutL l k) ++ (laterE l k).take (j + 1)) p' := by
  obtain ⟨hm, hfw, hc, hf, hv⟩ := hs
  obtain ⟨hyl, hyi⟩ := later_mem.1 (List.mem_of_getElem? hy)
  have hyf := (hc.2.2.1 y hyl).1
  have hyn : y.past.length = k.length := by rw [(hc.2.2.1 y hyl).2, hp.len]
  have hi : ∀ r n, HasC k r n → HasC y.past r n := fun r n => has_ins hyf.1 hyi (by omega)
  have hsrt : (laterE l k).Pairwise LtE := (srt_lt hc.2.1 (ordE_perm l) (ordE_srt l)).filter _
  have hPl : ∀ x ∈ ordE (cutL l k) ++ (laterE l k).take j, x ∈ l ∧ LtE x y := fun x hx => by
    rcases List.mem_append.1 hx with hx | hx
    · obtain ⟨h1, h2⟩ := mem_cut.1 (ordE_mem.1 hx)
      have := (closed_past hc hyl h1 (hi _ _ h2)).1
      exact ⟨h1, by unfold LtE; omega⟩
    · exact ⟨(later_mem.1 (List.mem_of_mem_take hx)).1, take_lt hsrt hy hx⟩
  have hn := nxt_of hc hyl hPl
  have hu : UniqP (ordE (cutL l k) ++ (laterE l k).take j) := uniqP_sub (uniqP_of hc.2.1) fun x hx => (hPl x hx).1
  have hPlen : (ordE (cutL l k) ++ (laterE l k).take j).length < 1024 := by
    have h1 := cut_len l k
    have h2 : (laterE l k).length ≤ (ordE l).length := List.length_filter_le _ _
    rw [ordE_len] at h2
    rw [List.length_append, ordE_len, List.length_take]
    omega
  have hval := hK.valL hm.lay hf hu (fun x hx => (hc.2.2.1 x (hPl x hx).1).1) (by omega)
  have hev : EvV m (y.past.length : Nat) y := by
    have := hv y hyl
    rw [(hc.2.2.1 y hyl).2]; exact this
  obtain ⟨p', a1, a2, a3⟩ := apply_step hm.lay hval hPlen hK hev hn
  refine ⟨p', a1, ?_, ?_⟩
  · refine applyF_all (set_valL hm.lay hval) hev (by rw [setF_len, setF_len, a2.len, hK.len]) fun i t g ht hg => ?_
    obtain ⟨g0, hg0⟩ := get_of (l := p) (i := i) (by rw [hK.len]; exact (List.getElem?_eq_some_iff.1 ht).1)
    rw [setF_at ht hg0] at hg
    cases hg
    exact ⟨_, set_step (kd_of hm.lay ht) (hK.kn i t g0 ht hg0).1 (by have := (hK.kn i t g0 ht hg0).2; omega) hn hi, setF_at ht (a3 i t g0 ht hg0)⟩
  · have : (laterE l k).take (j + 1) = (laterE l k).take j ++ [y] := by rw [List.take_add_one, hy]; rfl
    rw [this, ← List.append_assoc]; exact a2
theorem settles1_p (k : List Int) (y : EvS) : CallP Tryz.prog 28 [evA' y, .ad [ints k] 0] (bl (decide (¬ Ins k y.past))) := by
  refine CallA.of pg ord28 Tryz.func28 rfl Tryz.ntmps28 Tryz.results28 rfl fun h0 G0 O0 => ?_
  repeat' (first | refine Sp.h ?_ | refine Lk.r rfl ?_ | refine Rf.mk rfl ?_ | (refine All.mk ?_; intro _) | (apply TkB.r; (focus (repeat (first | exact Take.here | apply Take.there)))) | (apply Nm.r; (focus repeat (first | apply LN.cons | exact LN.nil))) | fail | (apply Cl.p (insideR_p _ _); (focus repeat' (first | exact Lend.nil | apply Lend.keep | fail))))
  refine Fin.p rfl (vb ?_)
  simp
end Go.Proofs.YtpgpdmmobblffaaGreat
namespace Go.Proofs.YtpgpdmmobblffaaGreat
open Go Go.CF
set_option maxRecDepth 20000
set_option maxHeartbeats 8000000 in
theorem settles34_p (m : ModS) (l : List EvS) (c : List Int) : CallP Tryz.prog 5 [mdl m, evs l, ints c] (bl true) := by
  have haw := awake34_p
  have hsu := suits34_c m l
  have hva := validC_p c
  refine CallA.of pg ord5 Tryz.func5 rfl Tryz.ntmps5 Tryz.results5 rfl fun h0 G0 O0 => ?_
  repeat' (first | refine Sp.h ?_ | refine Lk.r rfl ?_ | refine Rf.mk rfl ?_ | (apply Bd.t; (focus (first | assumption | omega | rfl))) | (refine All.mk ?_; intro _) | (apply TkB.r; (focus (repeat (first | exact Take.here | apply Take.there)))) | refine Ch.l ⟨rfl, rfl⟩ ?_ | fail | (apply Cl.p (haw); (focus repeat' (first | exact Lend.nil | fail))))
  rename_i b3
  (apply Cl.use (hsu); (focus repeat' (first | exact Lend.nil | apply Lend.keep | fail)); (focus (repeat (first | exact Takes.nil | (apply Takes.cons; (focus (repeat (first | exact Take.here | apply Take.there))))))); (focus rfl))
  rintro _ _ ⟨s, rfl, rfl, hs⟩
  cases s
  · repeat' (first | refine Sp.h ?_ | refine Lk.r rfl ?_ | refine Rf.mk rfl ?_ | (apply Bd.f; (focus (first | assumption | omega | exact Bool.false_ne_true))) | (apply Nm.r; (focus repeat (first | apply LN.cons | exact LN.nil))) | fail)
    exact Fin.p rfl rfl
  have hs := hs rfl
  by_cases hl0 : l.length = 0
  · repeat' (first | refine Sp.h ?_ | refine Lk.r rfl ?_ | refine Rf.mk rfl ?_ | (apply Bd.t; (focus (first | assumption | omega | rfl))) | (refine Im.mk ?_; intro _) | (apply Nm.r; (focus repeat (first | apply LN.cons | exact LN.nil))) | fail)
    exact Fin.p rfl rfl
  by_cases h1 : ValC c
  rotate_left
  · repeat' (first | refine Sp.h ?_ | refine Lk.r rfl ?_ | refine Rf.mk rfl ?_ | (apply Bd.t; (focus (first | assumption | omega | rfl))) | (apply Bd.f; (focus (first | assumption | omega | exact Bool.false_ne_true))) | (refine Im.mk ?_; intro _) | (apply Nm.r; (focus repeat (first | apply LN.cons | exact LN.nil))) | fail | (apply Cl.p (hva); (focus repeat' (first | exact Lend.nil | apply Lend.keep | fail))))
    exact Fin.p rfl rfl
  obtain ⟨d, hd⟩ := get_of (l := l) (i := 0) (by omega)
  have hn : n0 l = d.past.length := by rw [n0, hd]; rfl
  by_cases h3 : c.length = n0 l
  rotate_left
  · repeat' (first | refine Sp.h ?_ | refine Lk.r rfl ?_ | refine Rf.mk rfl ?_ | (apply Bd.t; (focus (first | assumption | omega | rfl))) | (apply Bd.f; (focus (first | assumption | omega | exact Bool.false_ne_true))) | (refine Im.mk ?_; intro _) | (apply Ix.q; (focus exact rfl); (focus assumption)) | (apply Nm.r; (focus repeat (first | apply LN.cons | exact LN.nil))) | fail | (apply Cl.p (hva); (focus ((repeat' (first | exact Lend.nil | apply Lend.keep | fail)); done))))
    all_goals exact Fin.p rfl rfl
  have hss := hs
  obtain ⟨hm, hfw, hc, hf, hv⟩ := hss
  have hl60 := hfw.1
  have hp := part_ok hc h1 h3
  have hp1 := part34_p hc (by omega) h1 h3
  obtain ⟨k, hk⟩ : ∃ k, k = partC l c := ⟨_, rfl⟩
  rw [← hk] at hp hp1
  have hlk := cut_len l k
  have ho1 := order_p (cutL l k) (uniq_sub hc.2.1 k) (by omega)
  have hoo := order_o l hc.2.1 (by omega)
  have hnw := new_p m hm.lay
  obtain ⟨p0, r1, k1⟩ := run_part hs (X := cutL l k) (fun e he => (mem_cut.1 he).1) (uniq_sub hc.2.1 k) (by omega)
  have hr1 := run34_p hm r1
  have hval0 : ValL (mrgF m) p0 := k1.valL hm.lay hf (uniqP_sub (uniqP_of hc.2.1) fun e he => (mem_cut.1 (ordE_mem.1 he)).1) (fun e he => (hc.2.2.1 e (mem_cut.1 (ordE_mem.1 he)).1).1) (by rw [ordE_len]; omega)
  have hse := settle_p m p0 k hm
  rw [settleF_ok ⟨hval0, hp.val⟩] at hse
  change CallP _ _ _ (.tup [mgs (setF k (mrgF m) p0), it 0]) at hse
  have hvq := validM_p m (setF k (mrgF m) p0) hm.lay
  rw [decide_eq_true (set_valL hm.lay hval0)] at hvq
  have hmg := merged32_p m hm.lay
  have hql : (setF k (mrgF m) p0).length = (mrgF m).length := by rw [setF_len, k1.len]; simp
  have hLl : (laterE l k).length ≤ l.length := by
    have : (laterE l k).length ≤ (ordE l).length := List.length_filter_le _ _
    rw [ordE_len] at this; exact this
  (repeat' (first | (show CA _ _ (Code.region 6 _ _) _ _; apply Stopped.out) | refine Sp.h ?_ | refine Lk.r rfl ?_ | refine Rf.mk rfl ?_ | (apply Bd.t; (focus (first | assumption | omega | rfl))) | (apply Bd.f; (focus (first | assumption | omega | exact Bool.false_ne_true))) | (refine Im.mk ?_; intro _) | (refine All.mk ?_; intro _) | (apply TkB.r; (focus (repeat (first | exact Take.here | apply Take.there)))) | (apply Ix.q; (focus exact rfl); (focus assumption)) | (apply SetAk.r; (focus (repeat (first | assumption | exact SetA.z | apply SetA.s)))) | (apply Nm.r; (focus repeat (first | apply LN.cons | exact LN.nil))) | fail | (apply Cl.p (hva); (focus ((repeat' (first | exact Lend.nil | apply Lend.keep | fail)); done))) | (apply Cl.p (hp1); (focus ((repeat' (first | exact Lend.nil | apply Lend.keep | fail)); done))))); any_goals apply Stopped.mk
  apply CA.freezeB 8
  focus rfl
  focus (repeat (first | exact Take.here | apply Take.there))
  repeat' (first | refine Sp.h ?_ | refine Lk.r rfl ?_ | refine Rf.mk rfl ?_ | fail)
  (apply Cl.use (hoo); (focus repeat' (first | exact Lend.nil | apply Lend.keep | fail)); (focus (repeat (first | exact Takes.nil | (apply Takes.cons; (focus (repeat (first | exact Take.here | apply Take.there))))))); (focus rfl))
  rintro _ _ ⟨w, rfl, rfl⟩
  have hdl := deleteE_a (p := fun y => decide (¬ Ins k y.past)) (fun y => settles1_p k y) rfl w (ordE l) (by rw [ordE_len]; omega)
  repeat' (first | refine Sp.h ?_ | refine Lk.r rfl ?_ | refine Rf.mk rfl ?_ | fail)
  (apply Cl.use (hdl); (focus repeat' (first | exact Lend.nil | apply Lend.keep | fail)); (focus (repeat (first | exact Takes.nil | (apply Takes.cons; (focus (repeat (first | exact Take.here | apply Take.there))))))); (focus rfl))
  rintro _ _ ⟨w2, rfl, rfl⟩
  rw [show (ordE l).filter (fun y => !decide (¬ Ins k y.past)) = laterE l k from rfl]
  (repeat' (first | (show CA _ _ (Code.region 7 _ _) _ _; apply Stopped.out) | refine Sp.h ?_ | refine Lk.r rfl ?_ | fail)); any_goals apply Stopped.mk
  apply CA.freeze 9
  focus rfl
  focus (repeat (first | exact Take.here | apply Take.there))
  focus omega
  repeat' (first | refine Sp.h ?_ | refine Lk.r rfl ?_ | refine Rf.mk rfl ?_ | (apply Bd.t; (focus (first | assumption | omega | rfl))) | refine OpK.r rfl ?_ | (refine Im.mk ?_; intro _) | (apply TkB.r; (focus (repeat (first | exact Take.here | apply Take.there)))) | refine Ch.l ⟨rfl, rfl⟩ ?_ | (apply CA.draw; (focus rfl); (focus kernel_rfl); (focus kernel_rfl); (focus repeat' (first | apply ON.one | exact ON.done | exact ON.none | apply ON.alt)); (focus rfl)) | fail | (apply Cl.p (hnw); (focus ((repeat' (first | exact Lend.nil | apply Lend.keep | fail)); done))) | (apply Cl.p (ho1); (focus ((repeat' (first | exact Lend.nil | apply Lend.keep | fail)); done))) | (apply Cl.p (hr1); (focus ((repeat' (first | exact Lend.nil | apply Lend.keep | fail)); done))) | (apply Cl.p (hse); (focus ((repeat' (first | exact Lend.nil | apply Lend.keep | fail)); done))) | (apply Cl.p (hvq); (focus ((repeat' (first | exact Lend.nil | apply Lend.keep | fail)); done))) | (apply Cl.p (hmg); (focus ((repeat' (first | exact Lend.nil | apply Lend.keep | fail)); done))))
  refine CA.loop (fun i : Nat => ⟨[(3, pm b3), (8, .ad [ints k] 0), (9, evs (laterE l k)), (10, mgs p0), (12, mgs (setF k (mrgF m) p0)), (96, tbls (mrgF m)), (97, it ((mrgF m).length : Nat)), (98, it i)], [mR b3 m]⟩) (fun i => i ≤ (mrgF m).length) (fun i => (mrgF m).length - i) 0 ⟨by (repeat (first | exact trivial | refine ⟨rfl, ?_⟩)), by (repeat (first | exact Subl.nil | refine Subl.cons (by (repeat (first | exact Take.here | apply Take.there))) ?_))⟩ (Nat.zero_le _) ?_
  intro i hi
  by_cases hin : i < (mrgF m).length
  · obtain ⟨t, ht⟩ := get_of hin
    obtain ⟨g0, hg0⟩ := get_of (l := p0) (i := i) (by rw [k1.len]; exact hin)
    have hqi := setF_at (c := k) ht hg0
    have hkd := kd_of hm.lay ht
    have hkn := (k1.kn i t g0 ht hg0).1
    obtain ⟨g, hg⟩ : ∃ g, g = setG k t g0 := ⟨_, rfl⟩
    rw [← hg] at hqi
    have hno : isSt t.kind → ∀ x ∈ g.marks, ¬ HasC k x.rep x.num := fun h x hx => by
      rcases h with h | h
      · rw [hg, setG_2 h (hkn.put2 (by omega))] at hx; exact (fg_mem.1 hx).2
      · rw [hg, setG_3 h hkn.drop] at hx; exact (fg_mem.1 hx).2
    repeat' (first | refine Sp.h ?_ | refine Lk.r rfl ?_ | refine Rf.mk rfl ?_ | (apply Bd.t; (focus (first | assumption | omega | rfl))) | (refine Im.mk ?_; intro _) | (refine All.mk ?_; intro _) | (apply TkB.r; (focus (repeat (first | exact Take.here | apply Take.there)))) | (apply Ix.q; (focus exact rfl); (focus assumption)) | refine Ch.l ⟨rfl, rfl⟩ ?_ | (apply SetAsk.r; (focus (repeat (first | exact SetAs.z | (apply SetAs.c; (focus (repeat (first | assumption | exact SetA.z | apply SetA.s)))))))) | (apply Nm.r; (focus repeat (first | apply LN.cons | exact LN.nil))) | fail)
    rename_i b15 _
    refine CA.loop (fun n : Nat => ⟨[(3, pm b3), (8, .ad [ints k] 0), (9, evs (laterE l k)), (10, mgs p0), (12, mgs (setF k (mrgF m) p0)), (15, pm b15), (96, tbls (mrgF m)), (97, it ((mrgF m).length : Nat)), (98, it i), (107, mks g.marks), (108, it (g.marks.length : Nat)), (109, it n)], [mR b3 m, blkR b15 84 (tblC t)]⟩) (fun n => n ≤ g.marks.length) (fun n => g.marks.length - n) 0 ⟨by (repeat (first | exact trivial | refine ⟨rfl, ?_⟩)), by (repeat (first | exact Subl.nil | refine Subl.cons (by (repeat (first | exact Take.here | apply Take.there))) ?_))⟩ (Nat.zero_le _) ?_
    intro n hn
    by_cases hnn : n < g.marks.length
    · obtain ⟨x, hx⟩ := get_of hnn
      have hhs := hasC_p k x.rep x.num
      by_cases hst : isSt t.kind
      · have hnh := hno hst x (List.mem_of_getElem? hx)
        rcases hst with h9 | h9
        all_goals repeat' (first | refine Sp.h ?_ | refine Lk.r rfl ?_ | refine Rf.mk rfl ?_ | (apply Bd.t; (focus (first | assumption | omega | rfl))) | (apply Bd.f; (focus (first | assumption | omega | exact Bool.false_ne_true))) | (refine All.mk ?_; intro _) | (apply TkB.r; (focus (repeat (first | exact Take.here | apply Take.there)))) | (apply Ix.q; (focus exact rfl); (focus assumption)) | refine Ch.l ⟨rfl, rfl⟩ ?_ | (apply SetAsk.r; (focus (repeat (first | exact SetAs.z | (apply SetAs.c; (focus (repeat (first | assumption | exact SetA.z | apply SetA.s)))))))) | (apply Fk.r; (focus (repeat (first | exact FillA.nil | (apply FillA.agg; (focus rfl); (focus rfl); (focus (repeat (first | exact SetAs.z | (apply SetAs.c; (focus (repeat (first | assumption | exact SetA.z | apply SetA.s)))))))) | (apply FillA.one; (focus rfl); (focus infer_instance); (focus (repeat (first | assumption | exact SetA.z | apply SetA.s)))))))) | (apply Nm.r; (focus repeat (first | apply LN.cons | exact LN.nil))) | (apply Ov.n; (focus first | omega | (simp <;> omega))) | fail | (apply Cl.p (hhs); (focus ((repeat' (first | exact Lend.nil | apply Lend.keep | fail)); done))))
        all_goals exact PA.lp (n + 1) ⟨by (repeat (first | exact trivial | refine ⟨rfl, ?_⟩)), by (repeat (first | exact Subl.nil | refine Subl.cons (by (repeat (first | exact Take.here | apply Take.there))) ?_))⟩ ⟨hnn, by omega⟩
      · have h8 : t.kind ≠ 2 := fun h => hst (.inl h)
        have h9 : t.kind ≠ 3 := fun h => hst (.inr h)
        repeat' (first | refine Sp.h ?_ | refine Lk.r rfl ?_ | refine Rf.mk rfl ?_ | (apply Bd.t; (focus (first | assumption | omega | rfl))) | (apply Bd.f; (focus (first | assumption | omega | exact Bool.false_ne_true))) | (refine All.mk ?_; intro _) | (apply TkB.r; (focus (repeat (first | exact Take.here | apply Take.there)))) | (apply Ix.q; (focus exact rfl); (focus assumption)) | refine Ch.l ⟨rfl, rfl⟩ ?_ | (apply SetAsk.r; (focus (repeat (first | exact SetAs.z | (apply SetAs.c; (focus (repeat (first | assumption | exact SetA.z | apply SetA.s)))))))) | (apply Nm.r; (focus repeat (first | apply LN.cons | exact LN.nil))) | (apply Ov.n; (focus first | omega | (simp <;> omega))) | fail)
        exact PA.lp (n + 1) ⟨by (repeat (first | exact trivial | refine ⟨rfl, ?_⟩)), by (repeat (first | exact Subl.nil | refine Subl.cons (by (repeat (first | exact Take.here | apply Take.there))) ?_))⟩ ⟨hnn, by omega⟩
    · have hne : n = g.marks.length := by omega
      subst hne
      repeat' (first | refine Sp.h ?_ | refine Lk.r rfl ?_ | refine Rf.mk rfl ?_ | (apply Bd.f; (focus (first | assumption | omega | exact Bool.false_ne_true))) | (apply Ov.n; (focus first | omega | (simp <;> omega))) | fail)
      exact PA.lp (i + 1) ⟨by (repeat (first | exact trivial | refine ⟨rfl, ?_⟩)), by (repeat (first | exact Subl.nil | refine Subl.cons (by (repeat (first | exact Take.here | apply Take.there))) ?_))⟩ ⟨hin, by omega⟩
  have hie : i = (mrgF m).length := by omega
  subst hie
  repeat' (first | refine Sp.h ?_ | refine Lk.r rfl ?_ | refine Rf.mk rfl ?_ | (apply Bd.f; (focus (first | assumption | omega | exact Bool.false_ne_true))) | fail)
  refine CA.loop (fun s : Nat × List MgS => ⟨[(3, pm b3), (9, evs (laterE l k)), (10, mgs s.2), (12, mgs (setF k (mrgF m) s.2)), (18, it s.1)], [mR b3 m]⟩) (fun s => s.1 ≤ (laterE l k).length ∧ KnL m (ordE (cutL l k) ++ (laterE l k).take s.1) s.2) (fun s => (laterE l k).length - s.1) (0, p0) ⟨by (repeat (first | exact trivial | refine ⟨rfl, ?_⟩)), by (repeat (first | exact Subl.nil | refine Subl.cons (by (repeat (first | exact Take.here | apply Take.there))) ?_))⟩ ⟨Nat.zero_le _, by simpa using k1⟩ ?_
  rintro ⟨j, p⟩ ⟨hj, hK⟩
  simp only at hj hK
  simp only
  have hPl : ∀ x ∈ ordE (cutL l k) ++ (laterE l k).take j, x ∈ l := fun x hx => by
    rcases List.mem_append.1 hx with hx | hx
    · exact (mem_cut.1 (ordE_mem.1 hx)).1
    · exact (later_mem.1 (List.mem_of_mem_take hx)).1
  have hvp : ValL (mrgF m) p := hK.valL hm.lay hf (uniqP_sub (uniqP_of hc.2.1) hPl) (fun e he => (hc.2.2.1 e (hPl e he)).1) (by rw [List.length_append, ordE_len, List.length_take]; omega)
  have hv1 := valuesQ_p m p hm
  have hv2 := valuesQ_p m (setF k (mrgF m) p) hm
  rw [valuesQ_ok hvp] at hv1
  rw [valuesQ_ok (set_valL hm.lay hvp), valsF_set hm.lay hK] at hv2
  have hls := listsQ_p (valsF (mrgF m) p) (valsF (mrgF m) p)
  rw [decide_eq_true rfl] at hls
  by_cases hje : j = (laterE l k).length
  · subst hje
    repeat' (first | refine Sp.h ?_ | refine Lk.r rfl ?_ | refine Rf.mk rfl ?_ | (apply Bd.t; (focus (first | assumption | omega | rfl))) | (refine Im.mk ?_; intro _) | (apply TkB.r; (focus (repeat (first | exact Take.here | apply Take.there)))) | refine Ch.l ⟨rfl, rfl⟩ ?_ | (apply Nm.r; (focus repeat (first | apply LN.cons | exact LN.nil))) | fail | (apply Cl.p (hv1); (focus ((repeat' (first | exact Lend.nil | apply Lend.keep | fail)); done))) | (apply Cl.p (hv2); (focus ((repeat' (first | exact Lend.nil | apply Lend.keep | fail)); done))) | (apply Cl.p (hls); (focus ((repeat' (first | exact Lend.nil | apply Lend.keep | fail)); done))))
    all_goals exact Fin.p rfl rfl
  · obtain ⟨y, hy⟩ := get_of (l := laterE l k) (i := j) (by omega)
    obtain ⟨p', a1, a2, a3⟩ := later_step hs (by omega) hp hy hK
    have hp1 := applyZ_p hm a1
    have hp2 := applyZ_p hm a2
    repeat' (first | refine Sp.h ?_ | refine Lk.r rfl ?_ | refine Rf.mk rfl ?_ | (apply Bd.t; (focus (first | assumption | omega | rfl))) | (apply Bd.f; (focus (first | assumption | omega | exact Bool.false_ne_true))) | refine OpK.r rfl ?_ | (refine Im.mk ?_; intro _) | (apply TkB.r; (focus (repeat (first | exact Take.here | apply Take.there)))) | (apply Ix.q; (focus exact rfl); (focus assumption)) | refine Ch.l ⟨rfl, rfl⟩ ?_ | (apply CA.draw; (focus rfl); (focus kernel_rfl); (focus kernel_rfl); (focus repeat' (first | apply ON.one | exact ON.done | exact ON.none | apply ON.alt)); (focus rfl)) | (apply Ov.n; (focus first | omega | (simp <;> omega))) | fail | (apply Cl.p (hv1); (focus ((repeat' (first | exact Lend.nil | apply Lend.keep | fail)); done))) | (apply Cl.p (hv2); (focus ((repeat' (first | exact Lend.nil | apply Lend.keep | fail)); done))) | (apply Cl.p (hls); (focus ((repeat' (first | exact Lend.nil | apply Lend.keep | fail)); done))) | (apply Cl.p (hp1); (focus ((repeat' (first | exact Lend.nil | apply Lend.keep | fail)); done))) | (apply Cl.p (hp2); (focus ((repeat' (first | exact Lend.nil | apply Lend.keep | fail)); done))))
    all_goals exact PA.lp (j + 1, p') ⟨by (repeat (first | exact trivial | refine ⟨rfl, ?_⟩)), by (repeat (first | exact Subl.nil | refine Subl.cons (by (repeat (first | exact Take.here | apply Take.there))) ?_))⟩ ⟨⟨by simp only; omega, a3⟩, by simp only; omega⟩
end Go.Proofs.YtpgpdmmobblffaaGreat
