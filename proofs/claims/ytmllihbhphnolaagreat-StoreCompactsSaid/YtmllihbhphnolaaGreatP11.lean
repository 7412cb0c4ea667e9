/- Part 11 of the ground of this proof: what its texts say of the model, the program and the plain data; conditions: those that are named. -/
import Derived.Test.YtmllihbhphnolaaGreatP10
namespace Go.Proofs.YtmllihbhphnolaaGreat
open Go Go.CF
set_option maxRecDepth 20000
theorem cmp2_neg {a b : MkS} : cmp2 a b < 0 ↔ a.time < b.time ∨ a.time = b.time ∧ a.rep < b.rep := by
  unfold cmp2 orI cmpI
  by_cases h1 : a.time < b.time
  · simp [h1]
  by_cases h2 : b.time < a.time
  · simp [h1, h2];omega
  have h3 : a.time = b.time := by omega
  by_cases h4 : a.rep < b.rep
  · simp [h3, h4]
  by_cases h5 : b.rep < a.rep
  · simp [h3, h4, h5]
  have h6 : a.rep = b.rep := by omega
  simp [h3, h6]
def Kd (t : TblS) : Prop := t.kind = 2 ∨ t.kind = 3 ∨ t.kind = 4 ∨ t.kind = 5
theorem cell_step {m : ModS} {t : TblS} {i : Nat} {P : List EvS} {g : MgS} {e : EvS} (hk : Kd t) (h : Kn m t i P g) (hl : g.marks.length < 1024) (hn : Nxt P e) :
    ∃ g', cellF e t (updE m e i) g = (0, g') ∧ Kn m t i (P ++ [e]) g' ∧ g'.marks.length ≤ g.marks.length + 1 := by
  cases hu : updE m e i with
  | none =>
    refine ⟨g, rfl, ⟨?_, h.drop, h.srt, fun k4 => ?_, fun k4 x => ?_⟩, by omega⟩
    · rw [putP_snoc, hu];simp [h.put]
    · have he : ∀ x, Asg m t i (P ++ [e]) x ↔ Asg m t i P x := fun x => by rw [asg_snoc, hu];simp
      rcases h.four k4 with ⟨h1, h2⟩|⟨x, h1, h2, h3⟩
      · exact .inl ⟨h1, fun x hx => h2 x ((he x).1 hx)⟩
      · exact .inr ⟨x, h1, (he x).2 h2, fun y hy => h3 y ((he y).1 hy)⟩
    · rw [liv_snoc hn, hu];simp [h.liv k4]
  | some u =>
    have hno : ¬ HasNm g.marks (mkE t e u) := fun ⟨x, hx, hxn⟩ => by
      obtain ⟨p, hp, w, _, _, rfl⟩ := h.mem hx
      exact hn.nm p hp hxn
    have hadd : addF g.marks (mkE t e u) = (0, insK g.marks (mkE t e u)) := by rw [addF, if_neg hno, if_neg (by omega)]
    have hil : ∀ (l : List MkS) x, (insK l x).length = l.length + 1 := fun l x => by
      have := posK_le l x
      simp [insK];omega
    obtain ⟨i1, i2⟩ := ins_lt h.srt hno
    have hfl : ∀ c, (fgK c g.marks).length ≤ g.marks.length := fun c => List.length_filter_le _ _
    have hfm : ∀ c x, x ∈ fgK c g.marks ↔ x ∈ g.marks ∧ ¬ HasC c x.rep x.num := fun c x => by simp [fgK, List.mem_filter]
    have hput : t.kind ≠ 3 → g.put = false := fun h3 => by
      have := h.put
      cases hp : g.put
      · rfl
      · exact absurd (this.1 hp).1 h3
    have hmk : mkE t e u = ⟨e.rep, e.num, e.time, if isReg t.kind then u.2.2 else 0⟩ := rfl
    have hlv : ∀ x, Liv m t i (P ++ [e]) x ↔ (Liv m t i P x ∧ (u.1 = kK t.kind → ¬ HasC e.past x.rep x.num)) ∨ (u.1 = bK t.kind ∧ x = mkE t e u) := fun x => by
      rw [liv_snoc hn, hu];simp
    have hpt : PutP m t i (P ++ [e]) ↔ PutP m t i P ∨ t.kind = 3 ∧ u.1 = 0 := by rw [putP_snoc, hu];simp
    have hsame : cellF e t (some u) g = (0, g) → (t.kind ≠ 4 → u.1 ≠ bK t.kind ∧ u.1 ≠ kK t.kind) → (t.kind = 4 → u.1 ≠ 2) → (t.kind = 3 → u.1 ≠ 0) → ∃ g', cellF e t (some u) g = (0, g') ∧ Kn m t i (P ++ [e]) g' ∧ g'.marks.length ≤ g.marks.length + 1 := fun h1 h2 h3 h4 => by
      refine ⟨g, h1, ⟨?_, h.drop, h.srt, fun k4 => ?_, fun k4 x => ?_⟩, by omega⟩
      · rw [hpt, h.put];exact ⟨.inl, fun h => h.elim id fun h => absurd h.2 (h4 h.1)⟩
      · have hb : bK t.kind = 2 := by rw [k4];rfl
        have he : ∀ x, Asg m t i (P ++ [e]) x ↔ Asg m t i P x := fun x => by
          rw [asg_snoc, hu]
          refine ⟨fun h => h.elim id fun ⟨w, hw, hw2, _⟩ => ?_, .inl⟩
          cases hw
          exact absurd (hw2.trans hb) (h3 k4)
        rcases h.four k4 with ⟨h1, h2⟩|⟨x, h1, h2, h3⟩
        · exact .inl ⟨h1, fun x hx => h2 x ((he x).1 hx)⟩
        · exact .inr ⟨x, h1, (he x).2 h2, fun y hy => h3 y ((he y).1 hy)⟩
      · rw [hlv, h.liv k4]
        exact ⟨fun h9 => .inl ⟨h9, fun h => absurd h (h2 k4).2⟩, fun h9 => h9.elim (·.1) fun h => absurd h.1 (h2 k4).1⟩
    rcases hk with k|k|k|k
    · have nb : bK t.kind = 0 := by rw [k];rfl
      have nk : kK t.kind = 1 := by rw [k];rfl
      by_cases u0 : u.1 = 0
      · refine ⟨⟨g.put, g.drop, insK g.marks (mkE t e u)⟩, ?_, ⟨?_, h.drop, i1, fun k4 => by omega, fun _ x => ?_⟩, by simp [hil]⟩
        · simp only [cellF, k, u0, true_and, true_or, if_true]
          rw [← k, ← hmk, hadd]
        · rw [hpt, h.put];exact ⟨.inl, fun h => h.elim id fun h => by omega⟩
        · rw [hlv]
          show x ∈ insK g.marks (mkE t e u) ↔ _
          rw [i2, h.liv (by omega)]
          exact ⟨fun h9 => h9.elim (fun h9 => .inl ⟨h9, fun h => by omega⟩) fun h9 => .inr ⟨by omega, h9⟩, fun h9 => h9.elim (fun h9 => .inl h9.1) fun h9 => .inr h9.2⟩
      by_cases u1 : u.1 = 1
      · refine ⟨⟨false, g.drop, fgK e.past g.marks⟩, ?_, ⟨?_, h.drop, h.srt.filter _, fun k4 => by omega, fun _ x => ?_⟩, by simp only;have := hfl e.past;omega⟩
        · simp [cellF, k, u1]
        · rw [hpt, ← h.put, hput (by omega)]
          simp only [Bool.false_eq_true, false_or, false_iff]
          omega
        · rw [hlv]
          show x ∈ fgK e.past g.marks ↔ _
          rw [hfm, h.liv (by omega)]
          exact ⟨fun h9 => .inl ⟨h9.1, fun _ => h9.2⟩, fun h9 => h9.elim (fun h9 => ⟨h9.1, h9.2 (by omega)⟩) fun h9 => by omega⟩
      · exact hsame (by simp [cellF, k, u0, u1]) (fun _ => ⟨by omega, by omega⟩) (fun h => by omega) (fun h => by omega)
    · have nb : bK t.kind = 1 := by rw [k];rfl
      have nk : kK t.kind = 0 := by rw [k];rfl
      by_cases u1 : u.1 = 1
      · refine ⟨⟨g.put, g.drop, insK g.marks (mkE t e u)⟩, ?_, ⟨?_, h.drop, i1, fun k4 => by omega, fun _ x => ?_⟩, by simp [hil]⟩
        · simp only [cellF, k, u1, true_and, or_true, if_true]
          rw [← k, ← hmk, hadd]
        · rw [hpt, h.put];exact ⟨.inl, fun h => h.elim id fun h => by omega⟩
        · rw [hlv]
          show x ∈ insK g.marks (mkE t e u) ↔ _
          rw [i2, h.liv (by omega)]
          exact ⟨fun h9 => h9.elim (fun h9 => .inl ⟨h9, fun h => by omega⟩) fun h9 => .inr ⟨by omega, h9⟩, fun h9 => h9.elim (fun h9 => .inl h9.1) fun h9 => .inr h9.2⟩
      by_cases u0 : u.1 = 0
      · refine ⟨⟨true, false, fgK e.past g.marks⟩, ?_, ⟨?_, rfl, h.srt.filter _, fun k4 => by omega, fun _ x => ?_⟩, by simp only;have := hfl e.past;omega⟩
        · simp [cellF, k, u0]
        · rw [hpt];simp [k, u0]
        · rw [hlv]
          show x ∈ fgK e.past g.marks ↔ _
          rw [hfm, h.liv (by omega)]
          exact ⟨fun h9 => .inl ⟨h9.1, fun _ => h9.2⟩, fun h9 => h9.elim (fun h9 => ⟨h9.1, h9.2 (by omega)⟩) fun h9 => by omega⟩
      · exact hsame (by simp [cellF, k, u0, u1]) (fun _ => ⟨by omega, by omega⟩) (fun h => by omega) (fun _ => u0)
    · have nb : bK t.kind = 2 := by rw [k];rfl
      by_cases u2 : u.1 = 2
      · have hc : ∀ q, lastF g.marks (mkE t e u) = (0, q) → cellF e t (some u) g = (0, ⟨g.put, g.drop, q⟩) := fun q hq => by
          simp only [cellF, k, u2]
          rw [← k, ← hmk, hq];simp [k]
        have hx : ∀ x, Asg m t i (P ++ [e]) x ↔ Asg m t i P x ∨ x = mkE t e u := fun x => by rw [asg_snoc, hu];simp [nb, u2]
        have hpp : g.put = true ↔ PutP m t i (P ++ [e]) := by rw [hpt, h.put];exact ⟨.inl, fun h => h.elim id fun h => by omega⟩
        rcases h.four k with ⟨h1, h2⟩|⟨x, h1, h2, h3⟩
        · refine ⟨⟨g.put, g.drop, [mkE t e u]⟩, hc _ ?_, ⟨hpp, h.drop, by simp, fun _ => .inr ⟨_, rfl, (hx _).2 (.inr rfl), fun y hy => ?_⟩, fun h => absurd k h⟩, by simp⟩
          · rw [h1] at hadd ⊢
            rw [lastF, hadd]
            simp [insK, posK, idxN]
          · rcases (hx y).1 hy with hy|rfl
            · exact absurd hy (h2 y)
            · exact fun h => LtK_asymm _ _ h h
        · by_cases hc2 : cmp2 x (mkE t e u) < 0
          · have hlt : LtK x (mkE t e u) := by have := cmp2_neg.1 hc2;unfold LtK;omega
            refine ⟨⟨g.put, g.drop, [mkE t e u]⟩, hc _ (by rw [h1, lastF, if_pos hc2]), ⟨hpp, h.drop, by simp, fun _ => .inr ⟨_, rfl, (hx _).2 (.inr rfl), fun y hy h9 => ?_⟩, fun h => absurd k h⟩, by simp⟩
            rcases (hx y).1 hy with hy|rfl
            · exact h3 y hy (hlt.trans h9)
            · exact LtK_asymm _ _ h9 h9
          · refine ⟨⟨g.put, g.drop, [x]⟩, hc _ (by rw [h1, lastF, if_neg hc2]), ⟨hpp, h.drop, by simp, fun _ => .inr ⟨x, rfl, (hx _).2 (.inl h2), fun y hy h9 => ?_⟩, fun h => absurd k h⟩, by simp⟩
            rcases (hx y).1 hy with hy|rfl
            · exact h3 y hy h9
            · obtain ⟨p, hp, w, _, _, rfl⟩ := h2
              have a1 := hn.tm p hp
              rw [cmp2_neg] at hc2
              unfold LtK at h9
              simp only [mkE] at hc2 h9
              omega
      · exact hsame (by simp [cellF, k, u2]) (fun h => absurd k h) (fun _ => u2) (fun h => by omega)
    · have nb : bK t.kind = 2 := by rw [k];rfl
      have nk : kK t.kind = 2 := by rw [k];rfl
      by_cases u2 : u.1 = 2
      · have hno2 : ¬ HasNm (fgK e.past g.marks) (mkE t e u) := fun ⟨x, hx, hxn⟩ => hno ⟨x, ((hfm _ _).1 hx).1, hxn⟩
        have hfl2 := hfl e.past
        have hadd2 : addF (fgK e.past g.marks) (mkE t e u) = (0, insK (fgK e.past g.marks) (mkE t e u)) := by rw [addF, if_neg hno2, if_neg (by omega)]
        obtain ⟨j1, j2⟩ := ins_lt (l := fgK e.past g.marks) (h.srt.filter _) hno2
        refine ⟨⟨g.put, g.drop, insK (fgK e.past g.marks) (mkE t e u)⟩, ?_, ⟨?_, h.drop, j1, fun k4 => by omega, fun _ x => ?_⟩, by simp only [hil];omega⟩
        · simp only [cellF, k, u2]
          rw [← k, ← hmk, hadd2];simp [k]
        · rw [hpt, h.put];exact ⟨.inl, fun h => h.elim id fun h => by omega⟩
        · rw [hlv]
          show x ∈ insK (fgK e.past g.marks) (mkE t e u) ↔ _
          rw [show x ∈ insK (fgK e.past g.marks) (mkE t e u) ↔ x ∈ fgK e.past g.marks ∨ x = mkE t e u from j2 x, hfm, h.liv (by omega)]
          exact ⟨fun h9 => h9.elim (fun h9 => .inl ⟨h9.1, fun _ => h9.2⟩) fun h9 => .inr ⟨by omega, h9⟩, fun h9 => h9.elim (fun h9 => .inl ⟨h9.1, h9.2 (by omega)⟩) fun h9 => .inr h9.2⟩
      · exact hsame (by simp [cellF, k, u2]) (fun _ => ⟨by omega, by omega⟩) (fun h => by omega) (fun h => by omega)
end Go.Proofs.YtmllihbhphnolaaGreat
namespace Go.Proofs.YtmllihbhphnolaaGreat
open Go Go.CF
set_option maxRecDepth 20000
def isSt (k : Int) : Prop := k = 2 ∨ k = 3
def FitU (m : ModS) : Prop := ∀ a ∈ m.acts, ∀ u ∈ a.eff.updates, ∀ (i : Nat) t, u.2.1 = i → (mrgF m)[i]? = some t → (isSt t.kind ↔ u.1 = 0 ∨ u.1 = 1) ∧ (¬ isSt t.kind → t.lo ≤ u.2.2 ∧ u.2.2 ≤ t.hi)
structure KnL (m : ModS) (P : List EvS) (l : List MgS) : Prop where
  len : l.length = (mrgF m).length
  kn : ∀ (i : Nat) t g, (mrgF m)[i]? = some t → l[i]? = some g → Kn m t i P g ∧ g.marks.length ≤ P.length
theorem kd_of {m : ModS} (hm : LayOK m.sorts m.tables) {i : Nat} {t : TblS} (ht : (mrgF m)[i]? = some t) : Kd t := by
  have := kindM hm t (List.mem_of_getElem? ht)
  unfold Kd;omega
theorem updE_mem {m : ModS} {e : EvS} {i : Nat} {u : UpS} (h : updE m e i = some u) : ∃ a ∈ m.acts, u ∈ a.eff.updates ∧ u.2.1 = i := by
  unfold updE at h
  split at h
  · have h1 := List.mem_of_find?_eq_some h
    have h2 := List.find?_some h
    have h2 : u.2.1 = (i : Int) := by simpa using h2
    rw [List.mem_reverse] at h1
    unfold usF at h1
    cases ha : m.acts[e.action.toNat]? with
    | none => rw [ha] at h1;cases h1
    | some a => rw [ha] at h1;exact ⟨a, List.mem_of_getElem? ha, h1, h2⟩
  · cases h
theorem Kn.valG {m : ModS} {t : TblS} {i : Nat} {P : List EvS} {g : MgS} (hf : FitU m) (ht : (mrgF m)[i]? = some t) (hk : Kd t) (hu : UniqP P) (hP : ∀ e ∈ P, FormedE e) (h : Kn m t i P g) (hl : g.marks.length ≤ 1024) : ValG t g := by
  refine ⟨⟨fun h9 => ?_, fun h9 => ?_, fun h9 => ?_, hl⟩, fun j x hj hx => ⟨?_, fun q y hq hy hn => ?_, fun y hq hy h9 => ?_⟩⟩
  · rw [h.drop] at h9;cases h9
  · have := (h.put.1 h9.1).1
    have := h9.2
    unfold isReg at this;omega
  · rcases h.four h9.1 with ⟨h1, _⟩|⟨x, h1, _⟩
    · rw [h1] at h9;simp at h9
    · rw [h1] at h9;simp at h9
  · obtain ⟨e, he, u, h1, h2, rfl⟩ := h.mem (List.mem_of_getElem? hx)
    obtain ⟨f1, f2, ⟨y, f3, f4⟩, f5, f6, f7⟩ := hP e he
    have hlen := (List.getElem?_eq_some_iff.1 f3).1
    have := f1.1 y (List.mem_of_getElem? f3)
    have := f1.2
    unfold rngK at *
    unfold Btw at f6
    obtain ⟨a, ha, hua, hui⟩ := updE_mem h1
    have hfit := hf a ha u hua i t hui ht
    refine ⟨by simp only [mkE];omega, by simp only [mkE];omega, by simp only [mkE];omega, ?_⟩
    simp only [mkE, lowT, highT]
    by_cases hr : isReg t.kind
    · rw [if_pos hr, if_pos hr, if_pos hr]
      exact hfit.2 (by unfold isReg at hr;unfold isSt;omega)
    · rw [if_neg hr, if_neg hr, if_neg hr];omega
  · have h1 := h.mem (List.mem_of_getElem? hx)
    have h2 := h.mem (List.mem_of_getElem? hy)
    have := asg_nm hu h2 h1 hn
    subst this
    obtain ⟨j1, rfl⟩ := List.getElem?_eq_some_iff.1 hx
    obtain ⟨q1, hq2⟩ := List.getElem?_eq_some_iff.1 hy
    have := List.pairwise_iff_getElem.1 h.srt q j q1 j1 hq
    rw [hq2] at this
    exact LtK_asymm _ _ this this
  · obtain ⟨j1, rfl⟩ := List.getElem?_eq_some_iff.1 hx
    obtain ⟨q1, rfl⟩ := List.getElem?_eq_some_iff.1 hy
    exact LtK_asymm _ _ h9 (List.pairwise_iff_getElem.1 h.srt (j - 1) j q1 j1 (by omega))
theorem KnL.valL {m : ModS} {P : List EvS} {l : List MgS} (hm : LayOK m.sorts m.tables) (hf : FitU m) (hu : UniqP P) (hP : ∀ e ∈ P, FormedE e) (hl : P.length ≤ 1024) (h : KnL m P l) : ValL (mrgF m) l :=
  ⟨h.len.symm, fun i t g ht hg => (h.kn i t g ht hg).1.valG hf ht (kd_of hm ht) hu hP (by have := (h.kn i t g ht hg).2;omega)⟩
theorem KnL.nil (m : ModS) : KnL m [] (List.replicate (mrgF m).length mg0) := by
  refine ⟨by simp, fun i t g _ hg => ?_⟩
  have : g = mg0 := (List.mem_replicate.1 (List.mem_of_getElem? hg)).2
  subst this
  exact ⟨⟨by simp [mg0, PutP], rfl, .nil, fun _ => .inl ⟨rfl, fun x ⟨e, he, _⟩ => by cases he⟩, fun _ x => by simp [mg0, Liv]⟩, by simp [mg0]⟩
theorem apply_step {m : ModS} {P : List EvS} {l : List MgS} {e : EvS} (hm : LayOK m.sorts m.tables) (hv : ValL (mrgF m) l) (hl : P.length < 1024) (h : KnL m P l) (he : EvV m (e.past.length : Nat) e) (hn : Nxt P e) :
    ∃ l', applyF m l e = (0, l') ∧ KnL m (P ++ [e]) l' ∧ ∀ (i : Nat) t g, (mrgF m)[i]? = some t → l[i]? = some g → l'[i]? = some (cellF e t (updE m e i) g).2 := by
  have hstep : ∀ (i : Nat) t g, (mrgF m)[i]? = some t → l[i]? = some g → ∃ g', cellF e t (updE m e i) g = (0, g') ∧ Kn m t i (P ++ [e]) g' ∧ g'.marks.length ≤ g.marks.length + 1 := fun i t g ht hg =>
    cell_step (kd_of hm ht) (h.kn i t g ht hg).1 (by have := (h.kn i t g ht hg).2;omega) hn
  by_cases hk : e.kind = 0
  · have hup : ∀ i : Nat, updE m e i = updF (usF m e) i := fun i => if_pos hk
    have hat : ∀ (i : Nat) t g, (mrgF m)[i]? = some t → l[i]? = some g → (cellsF (mrgF m) l (usF m e) e)[i]? = some (cellF e t (updE m e i) g) := fun i t g ht hg => by rw [hup];exact cellsF_at ht hg
    have hall : ∀ p ∈ cellsF (mrgF m) l (usF m e) e, p.1 = 0 := fun p hp => by
      obtain ⟨i, hi⟩ := List.getElem?_of_mem hp
      have hil := (List.getElem?_eq_some_iff.1 hi).1
      rw [cellsF_len] at hil
      obtain ⟨g, hg⟩ := get_of hil
      obtain ⟨t, ht⟩ := get_of (l := mrgF m) (i := i) (by rw [← h.len];exact hil)
      obtain ⟨g', h1, _⟩ := hstep i t g ht hg
      rw [hat i t g ht hg, h1] at hi
      cases hi;rfl
    refine ⟨(cellsF (mrgF m) l (usF m e) e).map (·.2), ?_, ⟨by rw [List.length_map, cellsF_len, h.len], fun i t g' ht hg' => ?_⟩, fun i t g ht hg => by rw [List.getElem?_map, hat i t g ht hg];rfl⟩
    · rw [applyF, if_neg (fun h9 => h9 ⟨hv, he⟩), if_neg (fun h9 => h9 hk), gather_end (fun p hp => .inl (hall p hp)), if_neg]
      rintro ⟨p, hp, h8⟩
      rw [hall p hp] at h8;cases h8
    · obtain ⟨g, hg⟩ := get_of (l := l) (i := i) (by rw [h.len];exact (List.getElem?_eq_some_iff.1 ht).1)
      obtain ⟨g2, h1, h2, h3⟩ := hstep i t g ht hg
      rw [List.getElem?_map, hat i t g ht hg, h1] at hg'
      cases hg'
      have := (h.kn i t g ht hg).2
      exact ⟨h2, by simp;omega⟩
  · have hup : ∀ i : Nat, updE m e i = none := fun i => if_neg hk
    refine ⟨l, by rw [applyF, if_neg (fun h9 => h9 ⟨hv, he⟩), if_pos hk], ⟨h.len, fun i t g ht hg => ?_⟩, fun i t g ht hg => by rw [hup];exact hg⟩
    obtain ⟨g2, h1, h2, h3⟩ := hstep i t g ht hg
    rw [hup] at h1
    have e1 : g = g2 := congrArg Prod.snd h1
    subst e1
    have := (h.kn i t g ht hg).2
    exact ⟨h2, by simp;omega⟩
/-! ### Closed lists -/
theorem uniqP_of {l : List EvS} (h : Uniq l) : UniqP l := fun a ha b hb h1 h2 => h.eq ha hb (by rw [nm, nm, h1, h2])
theorem has_self {e : EvS} (h : FormedE e) : ¬ HasC e.past e.rep e.num := by
  obtain ⟨_, _, ⟨x, h1, h2⟩, _⟩ := h
  rintro ⟨_, _, _, y, h3, h4⟩
  rw [h1] at h3;cases h3;omega
theorem closed_past {l : List EvS} (h : ClosedE l) {e d : EvS} (hd : d ∈ l) (he : e ∈ l) (hh : HasC d.past e.rep e.num) : e.time < d.time ∧ Cont e.past d.past := by
  obtain ⟨h1, h2, h3, x, h4, h5⟩ := hh
  obtain ⟨y, hy, g1, g2, g3, g4⟩ := h.2.2.2 d hd e.rep.toNat x h4 e.num h3 h5
  have : y = e := uniqP_of h.2.1 y hy e he (by omega) g2
  subst this
  exact ⟨g4, g3⟩
theorem has_of_lt {l : List EvS} (h : ClosedE l) {e d : EvS} (hd : d ∈ l) (he : e ∈ l) (hr : e.rep = d.rep) (hn : e.num < d.num) : HasC d.past e.rep e.num := by
  obtain ⟨f1, f2, ⟨x, f3, f4⟩, _⟩ := (h.2.2.1 d hd).1
  obtain ⟨g1, g2, ⟨y, g3, g4⟩, _⟩ := (h.2.2.1 e he).1
  have := g1.1 y (List.mem_of_getElem? g3)
  unfold rngK at this
  exact ⟨f1, by omega, by omega, x, by rw [hr];exact f3, by omega⟩
end Go.Proofs.YtmllihbhphnolaaGreat
namespace Go.Proofs.YtmllihbhphnolaaGreat
open Go Go.CF
set_option maxRecDepth 20000
theorem zipC_at {op : Int → Int → Int} {a b : List Int} (h : a.length = b.length) {i : Nat} {z : Int} : (zipC op a b)[i]? = some z ↔ ∃ x y, a[i]? = some x ∧ b[i]? = some y ∧ z = op x y := by
  unfold zipC
  rw [List.getElem?_zipWith]
  constructor
  · intro h9
    cases ha : a[i]? with
    | none => rw [ha] at h9;simp at h9
    | some x =>
      cases hb : b[i]? with
      | none => rw [ha, hb] at h9;simp at h9
      | some y => rw [ha, hb] at h9;simp at h9;exact ⟨x, y, rfl, rfl, h9.symm⟩
  · rintro ⟨x, y, ha, hb, rfl⟩
    rw [ha, hb]
theorem zipC_val {op : Int → Int → Int} {a b : List Int} (ha : ValC a) (hb : ValC b) (h : a.length = b.length) (hop : ∀ x y, rngK x → rngK y → rngK (op x y)) : ValC (zipC op a b) := by
  refine ⟨fun z hz => ?_, ?_⟩
  · obtain ⟨i, hi⟩ := List.getElem?_of_mem hz
    obtain ⟨x, y, h1, h2, rfl⟩ := (zipC_at h).1 hi
    exact hop x y (ha.1 x (List.mem_of_getElem? h1)) (hb.1 y (List.mem_of_getElem? h2))
  · rw [zipC_len h];exact ha.2
theorem rng_max (x y : Int) (hx : rngK x) (hy : rngK y) : rngK (max x y) := by unfold rngK at *;omega
theorem rng_min (x y : Int) (hx : rngK x) (hy : rngK y) : rngK (min x y) := by unfold rngK at *;omega
theorem joinC_val {a b : List Int} (ha : ValC a) (hb : ValC b) (h : a.length = b.length) : ValC (joinC a b) := zipC_val ha hb h rng_max
theorem joinC_len {a b : List Int} (h : a.length = b.length) : (joinC a b).length = a.length := zipC_len h
theorem has_join {a b : List Int} (ha : ValC a) (hb : ValC b) (h : a.length = b.length) (r n : Int) : HasC (joinC a b) r n ↔ HasC a r n ∨ HasC b r n := by
  constructor
  · rintro ⟨_, h2, h3, z, h4, h5⟩
    obtain ⟨x, y, hx, hy, rfl⟩ := (zipC_at h).1 h4
    by_cases hn : n ≤ x
    · exact .inl ⟨ha, h2, h3, x, hx, hn⟩
    · exact .inr ⟨hb, h2, h3, y, hy, by omega⟩
  · rintro (⟨_, h2, h3, x, hx, h5⟩|⟨_, h2, h3, y, hy, h5⟩)
    · obtain ⟨y, hy⟩ := get_of (l := b) (i := r.toNat) (by rw [← h];exact (List.getElem?_eq_some_iff.1 hx).1)
      exact ⟨joinC_val ha hb h, h2, h3, _, (zipC_at h).2 ⟨x, y, hx, hy, rfl⟩, by omega⟩
    · obtain ⟨x, hx⟩ := get_of (l := a) (i := r.toNat) (by rw [h];exact (List.getElem?_eq_some_iff.1 hy).1)
      exact ⟨joinC_val ha hb h, h2, h3, _, (zipC_at h).2 ⟨x, y, hx, hy, rfl⟩, by omega⟩
theorem clkE_val {n : Nat} (hn : 1 ≤ n ∧ n ≤ 5) {l : List EvS} (hl : ∀ e ∈ l, rngK e.num) : ValC (clkE n l) := by
  have key : ∀ (l : List EvS) (c : List Int), (∀ e ∈ l, rngK e.num) → (∀ x ∈ c, rngK x) → ∀ x ∈ l.foldl (fun c e => c.set e.rep.toNat (max (c[e.rep.toNat]?.getD 0) e.num)) c, rngK x := by
    intro l
    induction l with
    | nil => exact fun c _ h => h
    | cons e l ih =>
      intro c h1 h2
      rw [List.foldl_cons]
      refine ih _ (fun d hd => h1 d (List.mem_cons_of_mem _ hd)) fun x hx => ?_
      rcases List.mem_or_eq_of_mem_set hx with h|rfl
      · exact h2 x h
      · have h3 := h1 e (by simp)
        have h4 : rngK (c[e.rep.toNat]?.getD 0) := by
          cases hc : c[e.rep.toNat]? with
          | none => simp [rngK]
          | some y => exact h2 y (List.mem_of_getElem? hc)
        exact rng_max _ _ h4 h3
  refine ⟨key l _ hl fun x hx => ?_, by rw [clkE_len];omega⟩
  rw [(List.mem_replicate.1 hx).2];simp [rngK]
theorem formed_num {e : EvS} (h : FormedE e) : rngK e.num := by
  obtain ⟨f1, _, ⟨x, f3, f4⟩, f5, _⟩ := h
  have := f1.1 x (List.mem_of_getElem? f3)
  unfold rngK at *;omega
noncomputable def part1 (l : List EvS) (c : List Int) : List Int := zipC min c (clkE c.length l)
noncomputable def partC (l : List EvS) (c : List Int) : List Int := (cutL l (part1 l c)).foldl (fun k x => joinC k x.past) (part1 l c)
theorem mem_cut {l : List EvS} {c : List Int} {e : EvS} : e ∈ cutL l c ↔ e ∈ l ∧ HasC c e.rep e.num := by simp [cutL, List.mem_filter]
theorem fold_has {n : Nat} : ∀ (xs : List EvS) (c : List Int), (∀ x ∈ xs, ValC x.past ∧ x.past.length = n) → ValC c → c.length = n →
    ValC (xs.foldl (fun k x => joinC k x.past) c) ∧ (xs.foldl (fun k x => joinC k x.past) c).length = n ∧ ∀ r m, HasC (xs.foldl (fun k x => joinC k x.past) c) r m ↔ HasC c r m ∨ ∃ x ∈ xs, HasC x.past r m := by
  intro xs
  induction xs with
  | nil => intro c _ h2 h3;exact ⟨h2, h3, fun r m => by simp⟩
  | cons x xs ih =>
    intro c h1 h2 h3
    obtain ⟨v1, v2⟩ := h1 x (by simp)
    rw [List.foldl_cons]
    obtain ⟨a1, a2, a3⟩ := ih (joinC c x.past) (fun y hy => h1 y (List.mem_cons_of_mem _ hy)) (joinC_val h2 v1 (by omega)) (by rw [joinC_len (by omega)];omega)
    refine ⟨a1, a2, fun r m => ?_⟩
    rw [a3, has_join h2 v1 (by omega)]
    constructor
    · rintro ((h|h)|⟨y, hy, h⟩)
      · exact .inl h
      · exact .inr ⟨x, by simp, h⟩
      · exact .inr ⟨y, List.mem_cons_of_mem _ hy, h⟩
    · rintro (h|⟨y, hy, h⟩)
      · exact .inl (.inl h)
      · rcases List.mem_cons.1 hy with rfl|hy
        · exact .inl (.inr h)
        · exact .inr ⟨y, hy, h⟩
theorem has_ins {a b : List Int} (hb : ValC b) (h : Ins a b) (hl : a.length ≤ b.length) {r n : Int} (hh : HasC a r n) : HasC b r n := by
  obtain ⟨_, h2, h3, x, hx, h5⟩ := hh
  obtain ⟨y, hy⟩ := get_of (l := b) (i := r.toNat) (by have := (List.getElem?_eq_some_iff.1 hx).1;omega)
  exact ⟨hb, h2, h3, y, hy, by have := h _ x y hx hy;omega⟩
structure Part (l : List EvS) (k : List Int) : Prop where
  val : ValC k
  len : k.length = n0 l
  cls : ∀ e ∈ cutL l k, ∀ d ∈ l, HasC e.past d.rep d.num → d ∈ cutL l k
  sub : ∀ e ∈ cutL l k, Ins e.past k
theorem cont_ins {a b : List Int} (h : Cont a b) : Ins a b ∧ a.length = b.length ∧ ValC b := ⟨h.2, ((alike2 a b).1 h.1).2.2, ((alike2 a b).1 h.1).2.1⟩
theorem part1_ok {l : List EvS} {c : List Int} (hc : ClosedE l) (hv : ValC c) (hl : c.length = n0 l) : ValC (part1 l c) ∧ (part1 l c).length = n0 l := by
  have h1 : ValC (clkE c.length l) := clkE_val hv.2 fun e he => formed_num (hc.2.2.1 e he).1
  exact ⟨zipC_val hv h1 (by rw [clkE_len]) rng_min, by rw [part1, zipC_len (by rw [clkE_len]), hl]⟩
theorem fold_ins {n : Nat} : ∀ (xs : List EvS) (c : List Int), (∀ x ∈ xs, x.past.length = n) → c.length = n → Ins c (xs.foldl (fun k x => joinC k x.past) c) ∧ ∀ x ∈ xs, Ins x.past (xs.foldl (fun k x => joinC k x.past) c) := by
  intro xs
  induction xs with
  | nil => intro c _ _;exact ⟨fun i x y h1 h2 => by rw [List.foldl_nil, h1] at h2;cases h2;omega, fun x hx => by cases hx⟩
  | cons x xs ih =>
    intro c h1 h2
    rw [List.foldl_cons]
    have hx := h1 x (by simp)
    have hjl : (joinC c x.past).length = n := by rw [joinC_len (by omega)];exact h2
    obtain ⟨a1, a2⟩ := ih (joinC c x.past) (fun y hy => h1 y (List.mem_cons_of_mem _ hy)) hjl
    have step : ∀ a : List Int, a.length = n → Ins a (joinC c x.past) → Ins a (xs.foldl (fun k x => joinC k x.past) (joinC c x.past)) := fun a hal ha i u w hu hw => by
      obtain ⟨z, hz⟩ := get_of (l := joinC c x.past) (i := i) (by rw [hjl, ← hal];exact (List.getElem?_eq_some_iff.1 hu).1)
      have := ha i u z hu hz
      have := a1 i z w hz hw
      omega
    refine ⟨step c h2 fun i u w hu hw => ?_, fun y hy => ?_⟩
    · obtain ⟨p, q, hp, _, rfl⟩ := (zipC_at (by omega)).1 hw
      rw [hp] at hu;cases hu;omega
    · rcases List.mem_cons.1 hy with rfl|hy
      · refine step _ hx fun i u w hu hw => ?_
        obtain ⟨p, q, _, hq, rfl⟩ := (zipC_at (by omega)).1 hw
        rw [hq] at hu;cases hu;omega
      · exact a2 y hy
theorem part_ok {l : List EvS} {c : List Int} (hc : ClosedE l) (hv : ValC c) (hl : c.length = n0 l) : Part l (partC l c) := by
  obtain ⟨p1, p2⟩ := part1_ok hc hv hl
  have hxs : ∀ x ∈ cutL l (part1 l c), ValC x.past ∧ x.past.length = n0 l := fun x hx => by
    have := hc.2.2.1 x (mem_cut.1 hx).1
    exact ⟨this.1.1, this.2⟩
  obtain ⟨a1, a2, a3⟩ := fold_has (cutL l (part1 l c)) (part1 l c) hxs p1 p2
  obtain ⟨b1, b2⟩ := fold_ins (n := n0 l) (cutL l (part1 l c)) (part1 l c) (fun x hx => (hxs x hx).2) p2
  have hsub : ∀ e ∈ cutL l (partC l c), Ins e.past (partC l c) := fun e he => by
    obtain ⟨h1, h2⟩ := mem_cut.1 he
    rcases (a3 _ _).1 h2 with h|⟨x, hx, h⟩
    · exact b2 e (mem_cut.2 ⟨h1, h⟩)
    · obtain ⟨g1, g2, _⟩ := cont_ins (closed_past hc (mem_cut.1 hx).1 h1 h).2
      intro i u w hu hw
      obtain ⟨z, hz⟩ := get_of (l := x.past) (i := i) (by rw [← g2];exact (List.getElem?_eq_some_iff.1 hu).1)
      have := g1 i u z hu hz
      have := b2 x hx i z w hz hw
      omega
  refine ⟨a1, a2, fun e he d hd hh => ?_, hsub⟩
  refine mem_cut.2 ⟨hd, has_ins a1 (hsub e he) ?_ hh⟩
  have h9 : e.past.length = n0 l := (hc.2.2.1 e (mem_cut.1 he).1).2
  have h10 : (partC l c).length = n0 l := a2
  omega
end Go.Proofs.YtmllihbhphnolaaGreat
namespace Go.Proofs.YtmllihbhphnolaaGreat
open Go Go.CF
set_option maxRecDepth 20000
theorem join_z2 {a b : List Int} (ha : ValC a) (hb : ValC b) (hl : a.length = b.length) : CallP Tryz.prog 50 [clks [a, b]] (ints (joinC a b)) := join_z ((alike2 a b).2 ⟨ha, hb, hl⟩)
theorem meet_z2 {a b : List Int} (ha : ValC a) (hb : ValC b) (hl : a.length = b.length) : CallP Tryz.prog 72 [clks [a, b]] (ints (zipC min a b)) :=
  CallA.fz (by have := ha.2;simp [zipC];omega) (meet_o [a, b] ((alike2 a b).2 ⟨ha, hb, hl⟩))
theorem cut_z (l : List EvS) (c : List Int) (hl : l.length ≤ 1000) : CallP Tryz.prog 73 [evs l, ints c] (evs (cutL l c)) :=
  CallA.fz (by have : (cutL l c).length ≤ l.length := List.length_filter_le _ _;omega) (cut_o l c hl)
theorem clock_z {n : Nat} {l : List EvS} (hn : 1 ≤ n ∧ n ≤ 5) (hc : ClosedE l) (hl : ∀ e ∈ l, e.past.length = n) : CallP Tryz.prog 67 [.val (.int .i64 n), evs l] (.tup [ints (clkE n l), .val (.int .i64 0)]) :=
  CallA.fzt (by rw [clkE_len];omega) (clock_ok n l hn hc hl)
def FitO (t : TblS) (u : UpS) : Prop := (isSt t.kind ↔ u.1 = 0 ∨ u.1 = 1) ∧ (¬ isSt t.kind → t.lo ≤ u.2.2 ∧ u.2.2 ≤ t.hi)
def SuitE (m : ModS) (l : List EvS) : Prop := MOK m ∧ FewV l ∧ ClosedE l ∧ FitU m ∧ ∀ e ∈ l, EvV m (n0 l : Nat) e
end Go.Proofs.YtmllihbhphnolaaGreat
namespace Go.Proofs.YtmllihbhphnolaaGreat
open Go Go.CF
set_option maxRecDepth 20000
theorem ordE_len (l : List EvS) : (ordE l).length = l.length := (ordE_perm l).length_eq.symm
theorem uniqP_sub {l X : List EvS} (h : UniqP l) (hX : ∀ e ∈ X, e ∈ l) : UniqP X := fun a ha b hb => h a (hX a ha) b (hX b hb)
theorem uniq_sub {l : List EvS} (h : Uniq l) (c : List Int) : Uniq (cutL l c) := by
  have h1 : l.Pairwise fun a b => nm a ≠ nm b := by
    rw [List.pairwise_iff_getElem]
    intro i j hi hj hij h9
    have := h i j _ _ (List.getElem?_eq_getElem hi) (List.getElem?_eq_getElem hj) h9
    omega
  have h2 : (cutL l c).Pairwise fun a b => nm a ≠ nm b := h1.filter _
  intro i j a b ha hb hn
  obtain ⟨i1, rfl⟩ := List.getElem?_eq_some_iff.1 ha
  obtain ⟨j1, rfl⟩ := List.getElem?_eq_some_iff.1 hb
  rcases Nat.lt_trichotomy i j with h9|h9|h9
  · exact absurd hn (List.pairwise_iff_getElem.1 h2 i j i1 j1 h9)
  · exact h9
  · exact absurd hn.symm (List.pairwise_iff_getElem.1 h2 j i j1 i1 h9)
theorem cut_len (l : List EvS) (c : List Int) : (cutL l c).length ≤ l.length := List.length_filter_le _ _
end Go.Proofs.YtmllihbhphnolaaGreat
namespace Go.Proofs.YtmllihbhphnolaaGreat
open Go Go.CF
set_option maxRecDepth 20000
/-! ### The clock of events -/
theorem clk_key {n : Nat} : ∀ (A : List EvS) (c : List Int), c.length = n → (∀ x ∈ c, 0 ≤ x) → (∀ a ∈ A, a.rep.toNat < n ∧ 0 ≤ a.num) → ∀ q, q < n →
    ∃ y, (A.foldl (fun c e => c.set e.rep.toNat (max (c[e.rep.toNat]?.getD 0) e.num)) c)[q]? = some y ∧ 0 ≤ y ∧ ∀ k, 1 ≤ k → (k ≤ y ↔ (∃ z, c[q]? = some z ∧ k ≤ z) ∨ ∃ a ∈ A, a.rep.toNat = q ∧ k ≤ a.num) := by
  intro A
  induction A with
  | nil =>
    intro c hc h0 _ q hq
    obtain ⟨z, hz⟩ := get_of (l := c) (i := q) (by omega)
    exact ⟨z, hz, h0 z (List.mem_of_getElem? hz), fun k _ => by simp [hz]⟩
  | cons a A ih =>
    intro c hc h0 hA q hq
    obtain ⟨h1, h2⟩ := hA a (by simp)
    obtain ⟨u, hu⟩ := get_of (l := c) (i := a.rep.toNat) (by omega)
    have hu0 := h0 u (List.mem_of_getElem? hu)
    rw [List.foldl_cons]
    obtain ⟨y, e1, e2, e3⟩ := ih (c.set a.rep.toNat (max (c[a.rep.toNat]?.getD 0) a.num)) (by rw [List.length_set];exact hc) (fun x hx => by
      rcases List.mem_or_eq_of_mem_set hx with h|h
      · exact h0 x h
      · rw [h, hu, Option.getD_some];omega) (fun b hb => hA b (List.mem_cons_of_mem _ hb)) q hq
    refine ⟨y, e1, e2, fun k hk => (e3 k hk).trans ?_⟩
    rw [List.getElem?_set]
    by_cases hqa : a.rep.toNat = q
    · subst hqa
      rw [if_pos rfl, if_pos (by omega), hu, Option.getD_some]
      constructor
      · rintro (⟨z, hz, hkz⟩|⟨b, hb, hb1, hb2⟩)
        · cases hz
          by_cases hku : k ≤ u
          · exact .inl ⟨u, rfl, hku⟩
          · exact .inr ⟨a, by simp, rfl, by omega⟩
        · exact .inr ⟨b, List.mem_cons_of_mem _ hb, hb1, hb2⟩
      · rintro (⟨z, hz, hkz⟩|⟨b, hb, hb1, hb2⟩)
        · cases hz;exact .inl ⟨_, rfl, by omega⟩
        · rcases List.mem_cons.1 hb with rfl|hb
          · exact .inl ⟨_, rfl, by omega⟩
          · exact .inr ⟨b, hb, hb1, hb2⟩
    · rw [if_neg hqa]
      constructor
      · rintro (h|⟨b, hb, hb1, hb2⟩)
        · exact .inl h
        · exact .inr ⟨b, List.mem_cons_of_mem _ hb, hb1, hb2⟩
      · rintro (h|⟨b, hb, hb1, hb2⟩)
        · exact .inl h
        · rcases List.mem_cons.1 hb with rfl|hb
          · exact absurd hb1 hqa
          · exact .inr ⟨b, hb, hb1, hb2⟩
structure Cau (l A : List EvS) : Prop where
  sub : ∀ a ∈ A, a ∈ l
  cls : ∀ a ∈ A, ∀ d ∈ l, HasC a.past d.rep d.num → d ∈ A
theorem formed_rep {e : EvS} (h : FormedE e) : 0 ≤ e.rep ∧ e.rep.toNat < e.past.length ∧ 1 ≤ e.num := by
  obtain ⟨f1, f2, ⟨x, f3, f4⟩, _⟩ := h
  have := f1.1 x (List.mem_of_getElem? f3)
  unfold rngK at this
  exact ⟨f2, (List.getElem?_eq_some_iff.1 f3).1, by omega⟩
theorem n0_rng {l : List EvS} (hc : ClosedE l) {e : EvS} (he : e ∈ l) : 1 ≤ n0 l ∧ n0 l ≤ 5 := by
  have h := hc.2.2.1 e he
  rw [← h.2];exact h.1.1.2
theorem clkE_at {l A : List EvS} (hc : ClosedE l) (hA : ∀ a ∈ A, a ∈ l) {q : Nat} (hq : q < n0 l) : ∃ y, (clkE (n0 l) A)[q]? = some y ∧ 0 ≤ y ∧ ∀ k, 1 ≤ k → (k ≤ y ↔ ∃ a ∈ A, a.rep.toNat = q ∧ k ≤ a.num) := by
  obtain ⟨y, h1, h2, h3⟩ := clk_key (n := n0 l) A (List.replicate (n0 l) 0) (by simp) (fun x hx => by rw [(List.mem_replicate.1 hx).2];exact Int.le_refl 0) (fun a ha => by
    have hf := hc.2.2.1 a (hA a ha)
    have := formed_rep hf.1
    rw [hf.2] at this
    exact ⟨this.2.1, by omega⟩) q hq
  refine ⟨y, h1, h2, fun k hk => (h3 k hk).trans ⟨fun h => h.elim (fun ⟨z, hz, hkz⟩ => ?_) id, .inr⟩⟩
  rw [List.getElem?_replicate, if_pos hq] at hz
  cases hz;omega
theorem clk_valC {l A : List EvS} (hc : ClosedE l) (hA : ∀ a ∈ A, a ∈ l) (hn : 1 ≤ n0 l ∧ n0 l ≤ 5) : ValC (clkE (n0 l) A) := clkE_val hn fun e he => formed_num (hc.2.2.1 e (hA e he)).1
theorem clk_has {l A : List EvS} (hc : ClosedE l) (hA : Cau l A) {e : EvS} (he : e ∈ l) : HasC (clkE (n0 l) A) e.rep e.num ↔ e ∈ A := by
  have hf := hc.2.2.1 e he
  have hr := formed_rep hf.1
  rw [hf.2] at hr
  obtain ⟨y, h1, h2, h3⟩ := clkE_at hc hA.sub hr.2.1
  constructor
  · rintro ⟨_, _, _, x, hx, hnx⟩
    rw [h1] at hx;cases hx
    obtain ⟨a, ha, ha1, ha2⟩ := (h3 e.num hr.2.2).1 hnx
    have hfa := formed_rep (hc.2.2.1 a (hA.sub a ha)).1
    have har : e.rep = a.rep := by omega
    by_cases hlt : e.num < a.num
    · exact hA.cls a ha e he (has_of_lt hc (hA.sub a ha) he har hlt)
    · have := uniqP_of hc.2.1 e he a (hA.sub a ha) har (by omega)
      rw [this];exact ha
  · intro h
    exact ⟨clk_valC hc hA.sub (n0_rng hc he), hr.1, hr.2.2, y, h1, (h3 e.num hr.2.2).2 ⟨e, h, rfl, Int.le_refl _⟩⟩
theorem clk_ins {l A : List EvS} (hc : ClosedE l) (hA : Cau l A) {e : EvS} (he : e ∈ l) (hp : ∀ d ∈ l, HasC e.past d.rep d.num → d ∈ A) : Ins e.past (clkE (n0 l) A) := fun i x y hx hy => by
  have hf := hc.2.2.1 e he
  have hil := (List.getElem?_eq_some_iff.1 hx).1
  obtain ⟨z, h1, h2, h3⟩ := clkE_at hc hA.sub (q := i) (by rw [← hf.2];exact hil)
  rw [hy] at h1;cases h1
  by_cases hx1 : 1 ≤ x
  · obtain ⟨d, hd, g1, g2, _, _⟩ := hc.2.2.2 e he i x hx x hx1 (Int.le_refl _)
    have hdA := hp d hd ⟨hf.1.1, by omega, by omega, x, by rw [g1];simpa using hx, by omega⟩
    exact (h3 x hx1).2 ⟨d, hdA, by omega, by omega⟩
  · omega
/-! ### States -/
theorem add1_len (s : List Int) (p : Int × Int) : (add1 s p).length = s.length := by simp [add1]
theorem addD_len (d : List (Int × Int)) : ∀ s : List Int, (addD s d).length = s.length := by
  induction d with
  | nil => intro s;rfl
  | cons p d ih => intro s;rw [addD, List.foldl_cons];exact (ih _).trans (add1_len s p)
theorem addE_len (m : ModS) (s : List Int) (e : EvS) : (addE m s e).length = s.length := by
  unfold addE;split
  · exact addD_len _ s
  · rfl
theorem wrap_id {x : Int} (h : -9223372036854775808 ≤ x ∧ x ≤ 9223372036854775807) : IntKind.i64.wrap x = x := by rw [IntKind.wrap_i64];omega
theorem addD_bnd (d : List (Int × Int)) : ∀ (s : List Int) (B : Int), 0 ≤ B → B + 1000 * d.length ≤ 1000000000 → (∀ x ∈ s, -B ≤ x ∧ x ≤ B) → (∀ p ∈ d, -1000 ≤ p.2 ∧ p.2 ≤ 1000) → ∀ x ∈ addD s d, -(B + 1000 * d.length) ≤ x ∧ x ≤ B + 1000 * d.length := by
  induction d with
  | nil => intro s B _ _ h _ x hx;have := h x hx;simp only [List.length_nil];omega
  | cons p d ih =>
    intro s B hB hb h hd x hx
    simp only [List.length_cons] at hb ⊢
    have hp := hd p (by simp)
    have h1 : ∀ x ∈ add1 s p, -(B + 1000) ≤ x ∧ x ≤ B + 1000 := fun x hx => by
      rcases List.mem_or_eq_of_mem_set hx with h9|h9
      · have := h x h9;omega
      · have h0 : -B ≤ s[p.1.toNat]?.getD 0 ∧ s[p.1.toNat]?.getD 0 ≤ B := by
          cases hs : s[p.1.toNat]? with
          | none => simp only [Option.getD_none];omega
          | some z => exact h z (List.mem_of_getElem? hs)
        rw [h9, wrap_id (by omega)]
        omega
    have := ih (add1 s p) (B + 1000) (by omega) (by omega) h1 (fun q hq => hd q (List.mem_cons_of_mem _ hq)) x hx
    omega
def SmD (m : ModS) : Prop := ∀ a ∈ m.acts, a.eff.delta.length ≤ 20 ∧ ∀ p ∈ a.eff.delta, -1000 ≤ p.2 ∧ p.2 ≤ 1000
theorem dlt_sm {m : ModS} (h : SmD m) (e : EvS) : (dltF m e).length ≤ 20 ∧ ∀ p ∈ dltF m e, -1000 ≤ p.2 ∧ p.2 ≤ 1000 := by
  unfold dltF
  cases ha : m.acts[e.action.toNat]? with
  | none => simp
  | some a => exact h a (List.mem_of_getElem? ha)
theorem addE_bnd {m : ModS} (h : SmD m) (e : EvS) {s : List Int} {k : Nat} (hk : k ≤ 1000) (hs : ∀ x ∈ s, -(1000 + 20000 * (k : Int)) ≤ x ∧ x ≤ 1000 + 20000 * (k : Int)) : ∀ x ∈ addE m s e, -(1000 + 20000 * ((k + 1 : Nat) : Int)) ≤ x ∧ x ≤ 1000 + 20000 * ((k + 1 : Nat) : Int) := by
  intro x hx
  unfold addE at hx
  split at hx
  · obtain ⟨d1, d2⟩ := dlt_sm h e
    have := addD_bnd (dltF m e) s (1000 + 20000 * (k : Int)) (by omega) (by omega) hs d2 x hx
    omega
  · have := hs x hx;omega
structure StoA (m : ModS) (l : List EvS) (ld : List Int) (A : List EvS) (w : NowS) : Prop where
  clock : w.clock = clkE (n0 l) A
  time : w.time = A.foldl (fun t e => max t e.time) 0
  state : w.state = A.foldl (addE m) ld
  merged : KnL m A w.merged
  places : w.places = A.foldl plE []
theorem sto_bnd {m : ModS} (h : SmD m) {ld : List Int} (hl : ∀ x ∈ ld, -1000 ≤ x ∧ x ≤ 1000) : ∀ (A : List EvS), A.length ≤ 1000 → ∀ x ∈ A.foldl (addE m) ld, -(1000 + 20000 * (A.length : Int)) ≤ x ∧ x ≤ 1000 + 20000 * (A.length : Int) := by
  have key : ∀ (A : List EvS), A.reverse.length ≤ 1000 → ∀ x ∈ A.reverse.foldl (addE m) ld, -(1000 + 20000 * (A.reverse.length : Int)) ≤ x ∧ x ≤ 1000 + 20000 * (A.reverse.length : Int) := by
    intro A
    induction A with
    | nil => intro _ x hx;have := hl x hx;simp;omega
    | cons e A ih =>
      intro hA x hx
      rw [List.reverse_cons, List.foldl_append] at hx
      rw [List.length_reverse, List.length_cons] at hA
      have h2 := addE_bnd h e (k := A.reverse.length) (by simp;omega) (ih (by simp;omega)) x hx
      simpa using h2
  intro A hA
  have := key A.reverse (by simpa using hA)
  simpa using this
theorem nxt_cau {l A : List EvS} (hc : ClosedE l) (hA : Cau l A) {e : EvS} (he : e ∈ l) (hn : e ∉ A) : Nxt A e := by
  have hu := uniqP_of hc.2.1
  refine ⟨fun p hp ⟨h1, h2⟩ => hn ?_, fun p hp hh => hn (hA.cls p hp e he hh), fun p hp ⟨h1, h2⟩ => ?_, has_self (hc.2.2.1 e he).1⟩
  · rw [← hu p (hA.sub p hp) e he h1 h2];exact hp
  · rcases Int.lt_trichotomy p.num e.num with h|h|h
    · have := (closed_past hc he (hA.sub p hp) (has_of_lt hc he (hA.sub p hp) h2 h)).1
      omega
    · exact hn (by rw [← hu p (hA.sub p hp) e he h2 h];exact hp)
    · exact hn (hA.cls p hp e he (has_of_lt hc (hA.sub p hp) he h2.symm h))
theorem deliver_ok {m : ModS} {l A : List EvS} {ld : List Int} {w : NowS} {e : EvS} (hs : SuitE m l) (hl : l.length ≤ 100) (hd : SmD m) (hld : ∀ x ∈ ld, -1000 ≤ x ∧ x ≤ 1000) (hw : StoA m l ld A w) (hAl : A.length ≤ 100) (hA : Cau l A) (he : e ∈ l) (hn : e ∉ A) (hp : ∀ d ∈ l, HasC e.past d.rep d.num → d ∈ A) :
    ∃ w', deliverF m A w e = (0, w') ∧ StoA m l ld (A ++ [e]) w' := by
  obtain ⟨hm, hfw, hc, hf, hv⟩ := hs
  have hnx := nxt_cau hc hA he hn
  have hu : UniqP A := uniqP_sub (uniqP_of hc.2.1) hA.sub
  have hval := hw.merged.valL hm.lay hf hu (fun x hx => (hc.2.2.1 x (hA.sub x hx)).1) (by omega)
  have hpl : e.past.length = n0 l := (hc.2.2.1 e he).2
  have hev : EvV m (e.past.length : Nat) e := by rw [hpl];exact hv e he
  obtain ⟨k', a1, a2, -⟩ := apply_step hm.lay hval (by omega) hw.merged hev hnx
  have hclen : w.clock.length = n0 l := by rw [hw.clock, clkE_len]
  have hb := addE_bnd hd e (k := A.length) (by omega) (sto_bnd hd hld A (by omega))
  have h1 : EvV m (w.clock.length : Nat) e := by rw [hclen];exact hv e he
  have h2 : ¬ HasC w.clock e.rep e.num := by rw [hw.clock];exact fun h => hn ((clk_has hc hA he).1 h)
  have h3 : Ins e.past w.clock := by rw [hw.clock];exact clk_ins hc hA he hp
  have h4 : ¬ LateE A e := fun ⟨x, hx, hh, ht⟩ => by
    have := (closed_past hc he (hA.sub x hx) hh).1
    omega
  have h5 : ¬ (e.kind = 0 ∧ ¬ insS (addE m w.state e)) := fun ⟨_, h⟩ => h fun x hx => by
    rw [hw.state] at hx
    have := hb x hx
    omega
  have h6 : ¬ (applyF m w.merged e).1 ≠ 0 := by rw [a1];exact fun h => h rfl
  refine ⟨⟨cntF w.clock e, max w.time e.time, addE m w.state e, k', plE w.places e⟩, ?_, ⟨?_, ?_, ?_, a2, ?_⟩⟩
  · rw [deliverF, if_neg (fun h => h h1), if_neg h2, if_neg (fun h => h h3), if_neg h4, if_neg h5, if_neg h6, a1]
  · simp only [hw.clock, clkE, List.foldl_append, cntF];rfl
  · simp only [hw.time, List.foldl_append];rfl
  · simp only [hw.state, List.foldl_append];rfl
  · simp only [hw.places, List.foldl_append];rfl
end Go.Proofs.YtmllihbhphnolaaGreat
namespace Go.Proofs.YtmllihbhphnolaaGreat
open Go Go.CF
set_option maxRecDepth 20000
structure ExtO (l X : List EvS) : Prop where
  sub : ∀ e ∈ X, e ∈ l
  nxt : ∀ (i : Nat) e, X[i]? = some e → e ∉ X.take i ∧ ∀ d ∈ l, HasC e.past d.rep d.num → d ∈ X.take i
theorem ExtO.nil (l : List EvS) : ExtO l [] := ⟨fun e h => (by cases h), fun i e h => by simp at h⟩
theorem ExtO.snoc {l X : List EvS} {e : EvS} (h : ExtO l X) (he : e ∈ l) (hn : e ∉ X) (hp : ∀ d ∈ l, HasC e.past d.rep d.num → d ∈ X) : ExtO l (X ++ [e]) := by
  refine ⟨fun a ha => (List.mem_append.1 ha).elim (h.sub a) fun ha => by rw [List.mem_singleton.1 ha];exact he, fun i a ha => ?_⟩
  have hi := (List.getElem?_eq_some_iff.1 ha).1
  rw [List.length_append, List.length_singleton] at hi
  by_cases hx : i < X.length
  · rw [List.getElem?_append_left hx] at ha
    rw [List.take_append_of_le_length (by omega)]
    exact h.nxt i a ha
  · have : i = X.length := by omega
    subst this
    rw [List.getElem?_append_right (Nat.le_refl _), Nat.sub_self] at ha
    cases ha
    rw [List.take_left]
    exact ⟨hn, hp⟩
theorem ExtO.cau {l X : List EvS} (h : ExtO l X) (i : Nat) : Cau l (X.take i) := by
  refine ⟨fun a ha => h.sub a (List.mem_of_mem_take ha), fun a ha d hd hh => ?_⟩
  obtain ⟨j, hj⟩ := List.getElem?_of_mem ha
  rw [List.getElem?_take] at hj
  split at hj
  · rename_i hji
    have := (h.nxt j a hj).2 d hd hh
    rw [show X.take j = (X.take i).take j by rw [List.take_take, Nat.min_eq_left (by omega)]] at this
    exact List.mem_of_mem_take this
  · cases hj
theorem sto0 (m : ModS) (l : List EvS) (ld : List Int) : StoA m l ld [] ⟨List.replicate (n0 l) 0, 0, ld, List.replicate (mrgF m).length mg0, []⟩ := ⟨rfl, rfl, rfl, KnL.nil m, rfl⟩
theorem foldl_perm {α β : Type} {f : β → α → β} (hf : ∀ b x y, f (f b x) y = f (f b y) x) {l l' : List α} (h : l.Perm l') : ∀ b, l.foldl f b = l'.foldl f b := by
  induction h with
  | nil => exact fun _ => rfl
  | cons x _ ih => exact fun b => ih (f b x)
  | swap x y l => intro b;simp only [List.foldl_cons];rw [hf]
  | trans _ _ h1 h2 => exact fun b => (h1 b).trans (h2 b)
theorem wrap_add {x p q : Int} : IntKind.i64.wrap (IntKind.i64.wrap (x + p) + q) = IntKind.i64.wrap (IntKind.i64.wrap (x + q) + p) := by
  simp only [IntKind.wrap_i64];omega
theorem add1_comm (s : List Int) (p q : Int × Int) : add1 (add1 s p) q = add1 (add1 s q) p := by
  unfold add1
  by_cases h : p.1.toNat = q.1.toNat
  · rw [h]
    by_cases hl : q.1.toNat < s.length
    · simp only [List.getElem?_set_self hl, Option.getD_some, List.set_set, wrap_add]
    · simp only [List.set_eq_of_length_le (show s.length ≤ q.1.toNat by omega)]
  · rw [List.getElem?_set_ne h, List.getElem?_set_ne (fun h9 => h h9.symm), List.set_comm _ _ h]
theorem addD_add1 (d : List (Int × Int)) : ∀ (s : List Int) (p : Int × Int), addD (add1 s p) d = add1 (addD s d) p := by
  induction d with
  | nil => exact fun _ _ => rfl
  | cons q d ih =>
    intro s p
    have h1 : addD (add1 s p) (q :: d) = addD (add1 (add1 s p) q) d := rfl
    have h2 : addD s (q :: d) = addD (add1 s q) d := rfl
    rw [h1, h2, add1_comm, ih]
theorem addD_comm (d : List (Int × Int)) : ∀ (s : List Int) (d' : List (Int × Int)), addD (addD s d) d' = addD (addD s d') d := by
  induction d with
  | nil => exact fun _ _ => rfl
  | cons q d ih =>
    intro s d'
    have h1 : ∀ s, addD s (q :: d) = addD (add1 s q) d := fun _ => rfl
    rw [h1, h1, ih, addD_add1]
theorem addE_comm (m : ModS) (s : List Int) (a b : EvS) : addE m (addE m s a) b = addE m (addE m s b) a := by
  unfold addE
  split <;> split <;> first|rfl|exact addD_comm _ _ _
theorem state_perm {m : ModS} {l l' : List EvS} (h : l.Perm l') (ld : List Int) : l.foldl (addE m) ld = l'.foldl (addE m) ld := foldl_perm (addE_comm m) h ld
/-! ### Places -/
noncomputable def plL (l : List EvS) : List Int := (l.filter fun e => decide (0 < e.place)).map (·.place)
theorem withP_si {l s : List Int} {n : Int} (h : SI l s) : SI (l ++ [n]) (withP s n) := by
  unfold withP
  split
  · rename_i hn;exact si_keep h hn
  · rename_i hn
    refine ⟨List.pairwise_append.2 ⟨h.1.filter _, List.pairwise_cons.2 ⟨fun y hy => by simpa using (List.mem_filter.1 hy).2, h.1.filter _⟩, fun a ha b hb => ?_⟩, fun y => ?_⟩
    · have ha : a < n := by simpa using (List.mem_filter.1 ha).2
      rcases List.mem_cons.1 hb with rfl|hb
      · exact ha
      · have hb : n < b := by simpa using (List.mem_filter.1 hb).2
        omega
    · constructor
      · intro h9
        rcases List.mem_append.1 h9 with h9|h9
        · exact List.mem_append.2 (.inl ((h.2 y).1 (List.mem_filter.1 h9).1))
        · rcases List.mem_cons.1 h9 with rfl|h9
          · simp
          · exact List.mem_append.2 (.inl ((h.2 y).1 (List.mem_filter.1 h9).1))
      · intro h9
        rcases List.mem_append.1 h9 with h9|h9
        · have hy := (h.2 y).2 h9
          have hne : y ≠ n := fun e => hn (e ▸ hy)
          by_cases hlt : y < n
          · exact List.mem_append.2 (.inl (List.mem_filter.2 ⟨hy, by simpa using hlt⟩))
          · exact List.mem_append.2 (.inr (List.mem_cons.2 (.inr (List.mem_filter.2 ⟨hy, by simp only [decide_eq_true_eq];omega⟩))))
        · rw [List.mem_singleton.1 h9];simp
theorem plE_si {l : List EvS} : ∀ {P : List Int} {s : List Int}, SI P s → SI (P ++ plL l) (l.foldl plE s) := by
  induction l with
  | nil => intro P s h;simpa [plL] using h
  | cons e l ih =>
    intro P s h
    rw [List.foldl_cons]
    by_cases he : 0 < e.place
    · have h1 := ih (withP_si (n := e.place) h)
      rw [show plE s e = withP s e.place from if_pos he]
      rw [show P ++ plL (e :: l) = P ++ [e.place] ++ plL l by simp [plL, he]]
      exact h1
    · rw [show plE s e = s from if_neg he]
      rw [show P ++ plL (e :: l) = P ++ plL l by simp [plL, he]]
      exact ih h
theorem places_srt (l : List EvS) : l.foldl plE [] = srtD (plL l) := by
  have h : SI ([] ++ plL l) (l.foldl plE []) := plE_si ⟨List.Pairwise.nil, by simp⟩
  rw [List.nil_append] at h
  exact h.uniq (srtD_si _)
end Go.Proofs.YtmllihbhphnolaaGreat
namespace Go.Proofs.YtmllihbhphnolaaGreat
open Go Go.CF
set_option maxRecDepth 20000
/-! ### What is made -/
/-! ### Closed parts -/
theorem n0_cut {l : List EvS} (hc : ClosedE l) {k : List Int} (h : cutL l k ≠ []) : n0 (cutL l k) = n0 l := by
  obtain ⟨e, he⟩ : ∃ e, (cutL l k)[0]? = some e := get_of (by
    rcases Nat.eq_zero_or_pos (cutL l k).length with h0|h0
    · exact absurd (List.eq_nil_of_length_eq_zero h0) h
    · exact h0)
  have h1 := (hc.2.2.1 e (mem_cut.1 (List.mem_of_getElem? he)).1).2
  rw [n0, he]
  exact h1
theorem part_closed {l : List EvS} (hc : ClosedE l) {k : List Int} (hk : Part l k) (h : cutL l k ≠ []) : ClosedE (cutL l k) := by
  have hn := n0_cut hc h
  refine ⟨Nat.le_trans (cut_len l k) hc.1, uniq_sub hc.2.1 k, fun e he => by rw [hn];exact hc.2.2.1 e (mem_cut.1 he).1, fun e he r n hr i h1 h2 => ?_⟩
  have hel := (mem_cut.1 he).1
  obtain ⟨x, hx, g1, g2, g3, g4⟩ := hc.2.2.2 e hel r n hr i h1 h2
  refine ⟨x, hk.cls e he x hx ⟨(hc.2.2.1 e hel).1.1, by omega, by omega, n, by rw [g1];simpa using hr, by omega⟩, g1, g2, g3, g4⟩
theorem part_suit {m : ModS} {l : List EvS} (hs : SuitE m l) {k : List Int} (hk : Part l k) (h : cutL l k ≠ []) : SuitE m (cutL l k) := by
  obtain ⟨hm, hfw, hc, hf, hv⟩ := hs
  have := cut_len l k
  exact ⟨hm, ⟨by have := hfw.1;omega, fun e he => hfw.2 e (mem_cut.1 he).1⟩, part_closed hc hk h, hf, fun e he => by rw [n0_cut hc h];exact hv e (mem_cut.1 he).1⟩
theorem sto_part {m : ModS} {l X : List EvS} {ld : List Int} {w : NowS} (hc : ClosedE l) {k : List Int} (h : cutL l k ≠ []) (hw : StoA m (cutL l k) ld X w) : StoA m l ld X w :=
  ⟨by rw [hw.clock, n0_cut hc h], hw.time, hw.state, hw.merged, hw.places⟩
theorem cau_part {l X : List EvS} {k : List Int} (hk : Part l k) (hX : X.Perm (cutL l k)) : Cau l X :=
  ⟨fun a ha => (mem_cut.1 (hX.mem_iff.1 ha)).1, fun a ha d hd hh => hX.mem_iff.2 (hk.cls a (hX.mem_iff.1 ha) d hd hh)⟩
theorem part_clk {l X : List EvS} (hc : ClosedE l) {k : List Int} (hk : Part l k) (hle : ∀ (i : Nat) x, k[i]? = some x → 1 ≤ x → ∃ e ∈ l, e.rep.toNat = i ∧ 0 ≤ e.rep ∧ e.num = x) (hX : X.Perm (cutL l k)) : clkE (n0 l) X = k := by
  have hXl : ∀ a ∈ X, a ∈ l := fun a ha => (mem_cut.1 (hX.mem_iff.1 ha)).1
  refine List.ext_getElem? fun q => ?_
  by_cases hq : q < n0 l
  · obtain ⟨y, h1, h2, h3⟩ := clkE_at hc hXl hq
    obtain ⟨x, hx⟩ := get_of (l := k) (i := q) (by rw [hk.len];exact hq)
    have hx0 := hk.val.1 x (List.mem_of_getElem? hx)
    unfold rngK at hx0
    rw [h1, hx]
    congr 1
    have a1 : x ≤ y := by
      by_cases hx1 : 1 ≤ x
      · obtain ⟨e, he, e1, e2, e3⟩ := hle q x hx hx1
        refine (h3 x hx1).2 ⟨e, hX.mem_iff.2 (mem_cut.2 ⟨he, hk.val, e2, by omega, x, by rw [e1];exact hx, by omega⟩), e1, by omega⟩
      · omega
    have a2 : y ≤ x := by
      by_cases hy1 : 1 ≤ y
      · obtain ⟨a, ha, b1, b2⟩ := (h3 y hy1).1 (Int.le_refl _)
        obtain ⟨_, _, _, z, hz, hnz⟩ := (mem_cut.1 (hX.mem_iff.1 ha)).2
        rw [b1, hx] at hz
        cases hz;omega
      · omega
    omega
  · rw [List.getElem?_eq_none (by rw [clkE_len];omega), List.getElem?_eq_none (by rw [hk.len];omega)]
theorem partC_ev {l : List EvS} {c : List Int} (hc : ClosedE l) (hv : ValC c) (hl : c.length = n0 l) : ∀ (i : Nat) x, (partC l c)[i]? = some x → 1 ≤ x → ∃ e ∈ l, e.rep.toNat = i ∧ 0 ≤ e.rep ∧ e.num = x := by
  let Q : List Int → Prop := fun k => ∀ (i : Nat) x, k[i]? = some x → 1 ≤ x → ∃ e ∈ l, e.rep.toNat = i ∧ 0 ≤ e.rep ∧ e.num = x
  have hp1 := part1_ok hc hv hl
  -- any number that is at most one of the clock of the list
  have key : ∀ q, q < n0 l → ∀ y x : Int, (clkE (n0 l) l)[q]? = some y → 1 ≤ x → x ≤ y → ∃ e ∈ l, e.rep.toNat = q ∧ 0 ≤ e.rep ∧ e.num = x := by
    intro q hq y x hy h1 h2
    obtain ⟨y', g1, g2, g3⟩ := clkE_at hc (A := l) (fun _ h => h) hq
    rw [hy] at g1;cases g1
    obtain ⟨a, ha, b1, b2⟩ := (g3 x h1).1 h2
    have hf := (hc.2.2.1 a ha).1
    have hfr := formed_rep hf
    rcases Int.lt_or_eq_of_le b2 with hlt|heq
    · obtain ⟨_, _, ⟨z, f3, f4⟩, _⟩ := hf
      obtain ⟨d, hd, d1, d2, _⟩ := hc.2.2.2 a ha a.rep.toNat z f3 x h1 (by omega)
      exact ⟨d, hd, by omega, by omega, d2⟩
    · exact ⟨a, ha, b1, hfr.1, heq.symm⟩
  have q1 : Q (part1 l c) := by
    intro i x hx h1
    have hi : i < n0 l := by have := (List.getElem?_eq_some_iff.1 hx).1;rw [hp1.2] at this;exact this
    unfold part1 at hx
    rw [hl] at hx
    obtain ⟨a, b, h2, h3, h4⟩ := (zipC_at (by rw [hl, clkE_len])).1 hx
    exact key i hi b x h3 h1 (by omega)
  have step : ∀ (xs : List EvS), (∀ x ∈ xs, x ∈ l) → ∀ k, Q k → k.length = n0 l → Q (xs.foldl (fun k x => joinC k x.past) k) := by
    intro xs
    induction xs with
    | nil => exact fun _ k hk _ => hk
    | cons e xs ih =>
      intro hxs k hk hkl
      have he := hxs e (by simp)
      have hel := (hc.2.2.1 e he).2
      rw [List.foldl_cons]
      refine ih (fun x hx => hxs x (by simp [hx])) _ (fun i x hx h1 => ?_) ?_
      · obtain ⟨a, b, h2, h3, h4⟩ := (zipC_at (by rw [hkl, hel])).1 hx
        by_cases hab : b ≤ a
        · exact hk i x (by rw [h2];congr 1;omega) h1
        · obtain ⟨d, hd, d1, d2, _⟩ := hc.2.2.2 e he i b h3 x h1 (by omega)
          exact ⟨d, hd, by omega, by omega, d2⟩
      · rw [joinC_len (by rw [hkl, hel]), hkl]
  exact step (cutL l (part1 l c)) (fun x hx => (mem_cut.1 hx).1) _ q1 hp1.2
/-! ### Compaction -/
structure StoS where
  base : NowS
  evs : List EvS
  now : NowS
noncomputable def inL (c : List Int) (l : List EvS) : List EvS := l.filter fun e => decide (HasC c e.rep e.num)
noncomputable def outL (c : List Int) (l : List EvS) : List EvS := l.filter fun e => decide (¬ HasC c e.rep e.num)
noncomputable def mrg1 (m : ModS) (k : List MgS) (e : EvS) : List MgS := (applyF m k e).2
noncomputable def cmp1 (m : ModS) (b : NowS) (e : EvS) : NowS := ⟨b.clock, max b.time e.time, addE m b.state e, mrg1 m b.merged e, plE b.places e⟩
noncomputable def cmpB (m : ModS) (b : NowS) (c : List Int) (l : List EvS) : NowS := { (inL c l).foldl (cmp1 m) b with clock := c }
noncomputable def compactF (m : ModS) (s : StoS) (c : List Int) : Int × StoS :=
  @ite _ (¬ (ValC c ∧ c.length = s.now.clock.length)) (Classical.propDecidable _) (1, s)
    (@ite _ (¬ (Ins s.base.clock c ∧ Ins c s.now.clock ∧ ∀ e ∈ s.evs, HasC c e.rep e.num → Ins e.past c)) (Classical.propDecidable _) (9, s)
      (0, ⟨cmpB m s.base c s.evs, outL c s.evs, { s.now with merged := (outL c s.evs).foldl (mrg1 m) (cmpB m s.base c s.evs).merged }⟩))
theorem cmp1_fold {m : ModS} (A : List EvS) : ∀ b : NowS, A.foldl (cmp1 m) b = ⟨b.clock, A.foldl (fun t e => max t e.time) b.time, A.foldl (addE m) b.state, A.foldl (mrg1 m) b.merged, A.foldl plE b.places⟩ := by
  induction A with
  | nil => exact fun _ => rfl
  | cons e A ih => intro b;rw [List.foldl_cons, ih];rfl
end Go.Proofs.YtmllihbhphnolaaGreat
namespace Go.Proofs.YtmllihbhphnolaaGreat
open Go Go.CF
set_option maxRecDepth 20000
def BefE (a b : EvS) : Prop := FormedE a ∧ FormedE b ∧ HasC b.past a.rep a.num
noncomputable instance (a b : EvS) : Decidable (BefE a b) := Classical.propDecidable _
def FreeE (rest : List EvS) (e : EvS) : Prop := ∀ y ∈ rest, ¬ BefE y e
noncomputable instance (rest : List EvS) (e : EvS) : Decidable (FreeE rest e) := Classical.propDecidable _
noncomputable def freeN (rest : List EvS) : Nat → List Int
  | 0 => []
  | n + 1 => freeN rest n ++ (match rest[n]? with
    | some e => if FreeE rest e then [(n : Int)] else []
    | none => [])
noncomputable def atF (order : List Int) (n : Nat) (fr : List Int) : Int := match order[n]? with
  | some x => (fr[(x % (fr.length : Int)).toNat]?).getD 0
  | none => (fr[0]?).getD 0
inductive ExtR (order : List Int) : List EvS → List EvS → List EvS → Prop
  | done {out : List EvS} : ExtR order out [] out
  | step {out rest X : List EvS} {e : EvS} {i : Nat} : freeN rest rest.length ≠ [] → atF order out.length (freeN rest rest.length) = i → rest[i]? = some e → ExtR order (out ++ [e]) (rest.eraseIdx i) X → ExtR order out rest X
theorem free_mem {rest : List EvS} {n : Nat} (hn : n ≤ rest.length) {x : Int} : x ∈ freeN rest n ↔ ∃ (i : Nat) (e : EvS), x = i ∧ i < n ∧ rest[i]? = some e ∧ FreeE rest e := by
  induction n with
  | zero => simp [freeN]
  | succ n ih =>
    obtain ⟨e, he⟩ := get_of (l := rest) (i := n) (by omega)
    rw [freeN, List.mem_append, ih (by omega), he]
    constructor
    · rintro (⟨i, d, h1, h2, h3⟩|h)
      · exact ⟨i, d, h1, by omega, h3⟩
      · simp only at h
        split at h
        · rename_i hf
          exact ⟨n, e, List.mem_singleton.1 h, by omega, he, hf⟩
        · cases h
    · rintro ⟨i, d, h1, h2, h3, h4⟩
      by_cases hi : i < n
      · exact .inl ⟨i, d, h1, hi, h3, h4⟩
      · have : i = n := by omega
        subst this
        rw [he] at h3;cases h3
        right
        simp only [if_pos h4, h1, List.mem_singleton]
theorem free_len (rest : List EvS) : ∀ n, (freeN rest n).length ≤ n := by
  intro n
  induction n with
  | zero => simp [freeN]
  | succ n ih =>
    rw [freeN, List.length_append]
    split
    · split <;> simp <;> omega
    · simp;omega
theorem at_mem {order : List Int} (ho : ∀ x ∈ order, 0 ≤ x) {n : Nat} {fr : List Int} (hf : fr ≠ []) : atF order n fr ∈ fr := by
  have hl : 0 < fr.length := List.length_pos_iff.2 hf
  unfold atF
  split
  · rename_i x hx
    have := ho x (List.mem_of_getElem? hx)
    have h1 : 0 ≤ x % (fr.length : Int) := Int.emod_nonneg _ (by omega)
    have h2 : x % (fr.length : Int) < fr.length := Int.emod_lt_of_pos _ (by omega)
    obtain ⟨y, hy⟩ := get_of (l := fr) (i := (x % (fr.length : Int)).toNat) (by omega)
    rw [hy, Option.getD_some]
    exact List.mem_of_getElem? hy
  · obtain ⟨y, hy⟩ := get_of (l := fr) (i := 0) hl
    rw [hy, Option.getD_some]
    exact List.mem_of_getElem? hy
theorem erase_perm {α : Type} : ∀ {l : List α} {i : Nat} {e : α}, l[i]? = some e → l.Perm (e :: l.eraseIdx i)
  | [], i, e, h => by simp at h
  | a :: l, 0, e, h => by
    simp only [List.getElem?_cons_zero, Option.some.injEq] at h
    subst h
    exact List.Perm.refl _
  | a :: l, i + 1, e, h => by
    have ih := erase_perm (l := l) (i := i) (e := e) (by simpa using h)
    rw [List.eraseIdx_cons_succ]
    exact (ih.cons a).trans (List.Perm.swap e a _)
theorem uniq_nodup {l : List EvS} (h : Uniq l) : l.Nodup := by
  rw [List.nodup_iff_pairwise_ne, List.pairwise_iff_getElem]
  intro i j hi hj hij he
  have := h i j _ _ (List.getElem?_eq_getElem hi) (List.getElem?_eq_getElem hj) (by rw [he])
  omega
theorem free_ne {l rest : List EvS} (hc : ClosedE l) (hr : ∀ e ∈ rest, e ∈ l) (hn : rest ≠ []) : freeN rest rest.length ≠ [] := by
  have key : ∀ n, n ≤ rest.length → 0 < n → ∃ (i : Nat) (e : EvS), i < n ∧ rest[i]? = some e ∧ ∀ y ∈ rest.take n, e.time ≤ y.time := by
    intro n
    induction n with
    | zero => intro _ h;omega
    | succ n ih =>
      intro h1 _
      obtain ⟨d, hd⟩ := get_of (l := rest) (i := n) (by omega)
      have htk : rest.take (n + 1) = rest.take n ++ [d] := by rw [List.take_add_one, hd];rfl
      rw [htk]
      by_cases h0 : n = 0
      · subst h0
        exact ⟨0, d, by omega, hd, fun y hy => by simp at hy;subst hy;exact Int.le_refl _⟩
      · obtain ⟨i, e, g1, g2, g3⟩ := ih (by omega) (by omega)
        by_cases hle : e.time ≤ d.time
        · refine ⟨i, e, by omega, g2, fun y hy => ?_⟩
          rcases List.mem_append.1 hy with hy|hy
          · exact g3 y hy
          · rw [List.mem_singleton.1 hy];exact hle
        · refine ⟨n, d, by omega, hd, fun y hy => ?_⟩
          rcases List.mem_append.1 hy with hy|hy
          · have := g3 y hy;omega
          · rw [List.mem_singleton.1 hy];exact Int.le_refl _
  obtain ⟨i, e, h1, h2, h3⟩ := key rest.length (Nat.le_refl _) (List.length_pos_iff.2 hn)
  rw [List.take_length] at h3
  have : (i : Int) ∈ freeN rest rest.length := (free_mem (Nat.le_refl _)).2 ⟨i, e, rfl, h1, h2, fun y hy hb => by
    have h4 := h3 y hy
    have := (closed_past hc (hr e (List.mem_of_getElem? h2)) (hr y hy) hb.2.2).1
    omega⟩
  exact fun h => by rw [h] at this;cases this
theorem ext_run {l : List EvS} (hc : ClosedE l) {order : List Int} (ho : ∀ x ∈ order, 0 ≤ x) : ∀ (n : Nat) (out rest : List EvS), rest.length = n → (out ++ rest).Perm l → ExtO l out → ∃ X, ExtR order out rest X ∧ ExtO l X ∧ X.Perm l := by
  intro n
  induction n with
  | zero =>
    intro out rest hn hp hx
    have hr := List.eq_nil_of_length_eq_zero hn
    subst hr
    exact ⟨out, .done, hx, by simpa using hp⟩
  | succ n ih =>
    intro out rest hn hp hx
    have hsub : ∀ e ∈ rest, e ∈ l := fun e he => hp.mem_iff.1 (by simp [he])
    have hf := free_ne hc hsub (by intro h;rw [h] at hn;cases hn)
    have hm := at_mem ho (n := out.length) hf
    obtain ⟨i, e, h1, h2, h3, h4⟩ := (free_mem (Nat.le_refl _)).1 hm
    have hel := hsub e (List.mem_of_getElem? h3)
    have hpe : rest.Perm (e :: rest.eraseIdx i) := erase_perm h3
    have hp2 : ((out ++ [e]) ++ rest.eraseIdx i).Perm l := by
      rw [List.append_assoc]
      exact (hpe.symm.append_left out).trans hp
    have hnd : (out ++ rest).Nodup := hp.symm.nodup (uniq_nodup hc.2.1)
    have hno : e ∉ out := fun h => (List.nodup_append.1 hnd).2.2 e h e (List.mem_of_getElem? h3) rfl
    obtain ⟨X, g1, g2, g3⟩ := ih (out ++ [e]) (rest.eraseIdx i) (by rw [List.length_eraseIdx, if_pos h2];omega) hp2 (hx.snoc hel hno fun d hd hh => by
      have hd2 : d ∈ out ++ rest := hp.mem_iff.2 hd
      rcases List.mem_append.1 hd2 with h9|h9
      · exact h9
      · exact absurd ⟨(hc.2.2.1 d hd).1, (hc.2.2.1 e hel).1, hh⟩ (h4 d h9))
    exact ⟨X, .step hf h1 h3 g1, g2, g3⟩
theorem ext_ok {l : List EvS} (hc : ClosedE l) {order : List Int} (ho : ∀ x ∈ order, 0 ≤ x) : ∃ X, ExtR order [] (ordE l) X ∧ ExtO l X ∧ X.Perm l :=
  ext_run hc ho _ [] (ordE l) rfl (by simpa using (ordE_perm l).symm) (ExtO.nil l)
end Go.Proofs.YtmllihbhphnolaaGreat
namespace Go.Proofs.YtmllihbhphnolaaGreat
open Go Go.CF
set_option maxRecDepth 20000
theorem less32_p (a b : EvS) : CallP Tryz.prog 228 [evA' a, evA' b] (bl (decide (LtE a b))) := by
  refine CallA.of pg ord228 Tryz.func228 rfl Tryz.ntmps228 Tryz.results228 rfl fun h0 G0 O0 => ?_
  repeat' (first|refine Sp.h ?_|refine Lk.r rfl ?_|refine Rf.mk rfl ?_|(refine Bd.mk ?_ ?_ <;> intro _)|(refine All.mk ?_;intro _)|(apply TkB.r;(focus repeat first|exact .here|apply Take.there))|(apply Nm.r;focus repeat first|apply LN.cons|exact LN.nil)|fail)
  all_goals exact Fin.p rfl (vb (by first|exact (decide_eq_true (by unfold LtE;omega)).symm|exact (decide_eq_false (by unfold LtE;omega)).symm|exact decide_eq_decide.2 (by unfold LtE;omega)))
theorem before32_p (a b : EvS) : CallP Tryz.prog 123 [evA' a, evA' b] (bl (decide (BefE a b))) := by
  have h1 := formedR_p a
  have h2 := formedR_p b
  have h3 := nameR_p a
  have h4 := hasR_p b.past a.rep a.num
  by_cases k1 : FormedE a
  · by_cases k2 : FormedE b
    · have : decide (BefE a b) = decide (HasC b.past a.rep a.num) := decide_eq_decide.2 ⟨fun h => h.2.2, fun h => ⟨k1, k2, h⟩⟩
      rw [this]
      refine CallA.of pg ord123 Tryz.func123 rfl Tryz.ntmps123 Tryz.results123 rfl fun h0 G0 O0 => ?_
      repeat' (first|refine Sp.h ?_|refine Lk.r rfl ?_|refine Rf.mk rfl ?_|(apply Bd.t;(focus first|assumption|omega|rfl))|refine OpK.r rfl ?_|(refine All.mk ?_;intro _)|(apply TkB.r;(focus repeat first|exact .here|apply Take.there))|refine Ch.l ⟨rfl, rfl⟩ ?_|(apply Nm.r;focus repeat first|apply LN.cons|exact LN.nil)|(apply CA.draw;(focus rfl);(focus kernel_rfl);(focus kernel_rfl);(focus repeat' (first|apply ON.one|exact ON.done|exact ON.none|apply ON.alt));(focus rfl))|(apply Cl.p (h1);(focus ((repeat' (first|exact Lend.nil|apply Lend.keep|apply Lend.agg|fail));done)))|(apply Cl.p (h2);(focus ((repeat' (first|exact Lend.nil|apply Lend.keep|apply Lend.agg|fail));done)))|(apply Cl.p (h3);(focus ((repeat' (first|exact Lend.nil|apply Lend.keep|apply Lend.agg|fail));done)))|(apply Cl.p (h4);(focus ((repeat' (first|exact Lend.nil|apply Lend.keep|apply Lend.agg|fail));done))))
      all_goals exact Fin.p rfl rfl
    · have : decide (BefE a b) = false := decide_eq_false fun h => k2 h.2.1
      rw [this]
      refine CallA.of pg ord123 Tryz.func123 rfl Tryz.ntmps123 Tryz.results123 rfl fun h0 G0 O0 => ?_
      repeat' (first|refine Sp.h ?_|refine Lk.r rfl ?_|refine Rf.mk rfl ?_|(apply Bd.t;(focus first|assumption|omega|rfl))|(apply Bd.f;(focus first|assumption|omega|exact Bool.false_ne_true))|refine OpK.r rfl ?_|(refine All.mk ?_;intro _)|(apply TkB.r;(focus repeat first|exact .here|apply Take.there))|refine Ch.l ⟨rfl, rfl⟩ ?_|(apply Nm.r;focus repeat first|apply LN.cons|exact LN.nil)|(apply CA.draw;(focus rfl);(focus kernel_rfl);(focus kernel_rfl);(focus repeat' (first|apply ON.one|exact ON.done|exact ON.none|apply ON.alt));(focus rfl))|(apply Cl.p (h1);(focus ((repeat' (first|exact Lend.nil|apply Lend.keep|apply Lend.agg|fail));done)))|(apply Cl.p (h2);(focus ((repeat' (first|exact Lend.nil|apply Lend.keep|apply Lend.agg|fail));done)))|(apply Cl.p (h3);(focus ((repeat' (first|exact Lend.nil|apply Lend.keep|apply Lend.agg|fail));done)))|(apply Cl.p (h4);(focus ((repeat' (first|exact Lend.nil|apply Lend.keep|apply Lend.agg|fail));done))))
      all_goals exact Fin.p rfl rfl
  · have : decide (BefE a b) = false := decide_eq_false fun h => k1 h.1
    rw [this]
    refine CallA.of pg ord123 Tryz.func123 rfl Tryz.ntmps123 Tryz.results123 rfl fun h0 G0 O0 => ?_
    repeat' (first|refine Sp.h ?_|refine Lk.r rfl ?_|refine Rf.mk rfl ?_|(apply Bd.f;(focus first|assumption|omega|exact Bool.false_ne_true))|refine OpK.r rfl ?_|(refine All.mk ?_;intro _)|(apply TkB.r;(focus repeat first|exact .here|apply Take.there))|refine Ch.l ⟨rfl, rfl⟩ ?_|(apply Nm.r;focus repeat first|apply LN.cons|exact LN.nil)|(apply CA.draw;(focus rfl);(focus kernel_rfl);(focus kernel_rfl);(focus repeat' (first|apply ON.one|exact ON.done|exact ON.none|apply ON.alt));(focus rfl))|(apply Cl.p (h1);(focus ((repeat' (first|exact Lend.nil|apply Lend.keep|fail));done)))|(apply Cl.p (h2);(focus ((repeat' (first|exact Lend.nil|apply Lend.keep|fail));done)))|(apply Cl.p (h3);(focus ((repeat' (first|exact Lend.nil|apply Lend.keep|fail));done)))|(apply Cl.p (h4);(focus ((repeat' (first|exact Lend.nil|apply Lend.keep|fail));done))))
    all_goals exact Fin.p rfl rfl
set_option maxHeartbeats 4000000 in
theorem order32_o (l : List EvS) (hu : Uniq l) (hl : l.length ≤ 100000) : CallO Tryz.prog 152 [evs l] 37 13 (ordE l) evC := by
  refine CallA.of pg ord152 Tryz.func152 rfl Tryz.ntmps152 Tryz.results152 rfl fun h0 G0 O0 => ?_
  repeat' (first|refine Sp.h ?_|refine Lk.r rfl ?_|refine Rf.mk rfl ?_|(refine All.mk ?_;intro _)|(apply Fk.r;(focus (repeat (first|exact FillA.nil|(apply FillA.agg;(focus rfl);(focus rfl);(focus (repeat (first|exact SetAs.z|(apply SetAs.c;(focus (repeat first|assumption|exact SetA.z|apply SetA.s)))))))|(apply FillA.one;(focus rfl);(focus infer_instance);(focus (repeat first|assumption|exact SetA.z|apply SetA.s)))))))|refine Rf.mk ⟨rfl, rfl, rfl⟩ ?_|fail)
  rename_i v
  apply CA.retype (m := ([] : List EvS)) (g := evC)
  focus (repeat first|exact .here|apply Take.there)
  focus rfl
  refine CA.loop (fun x : Nat × Value × List EvS => ⟨[(0, evs l), (3, .ow x.2.1), (4, it x.1)], [arrR x.2.1 37 13 x.2.2 evC]⟩) (fun x => x.1 ≤ l.length ∧ x.2.2.length = x.1 ∧ (l.take x.1).Perm x.2.2 ∧ SrtE x.2.2) (fun x => l.length - x.1) (0, v, []) ⟨by repeat first|trivial|refine ⟨rfl,?_⟩,by repeat first|exact .nil|refine .cons (by repeat first|exact .here|apply Take.there) ?_⟩ ⟨Nat.zero_le _, rfl, by simp, List.Pairwise.nil⟩ ?_
  rintro ⟨i, w, s⟩ ⟨hi, hsl, hp, hs⟩
  simp only at hi hsl hp hs
  simp only
  by_cases hin : i < l.length
  · obtain ⟨x, hx⟩ := get_of hin
    have hsu : l.take (i + 1) = l.take i ++ [x] := by rw [List.take_add_one, hx];rfl
    repeat' (first|refine Sp.h ?_|refine Lk.r rfl ?_|refine Rf.mk rfl ?_|(apply Bd.t;(focus first|assumption|omega|rfl))|(refine Im.mk ?_;intro _)|(apply TkA.r;(focus repeat first|exact .here|apply Take.there))|fail)
    refine CA.loop (fun j : Nat => ⟨[(0, evs l), (3, .ow w), (4, it i), (5, it j)], [arrR w 37 13 s evC]⟩) (fun j => j ≤ s.length ∧ ∀ y ∈ s.drop j, LtE x y) (fun j => j) s.length ?_ ⟨Nat.le_refl _, by simp⟩ ?_
    · exact ⟨by repeat first|trivial|refine ⟨rfl,?_⟩,by repeat first|exact .nil|refine .cons (by repeat first|exact .here|apply Take.there) ?_⟩
    rintro j ⟨hj, hlt⟩
    have fin : (∀ m y, s.take j = m ++ [y] → ¬ LtE x y) → (l.take (i + 1)).Perm (s.take j ++ x :: s.drop j) ∧ SrtE (s.take j ++ x :: s.drop j) := fun h => by
      refine ⟨?_, srt_ins (by rw [List.take_append_drop];exact hs) hlt h⟩
      rw [hsu]
      refine (hp.append_right [x]).trans ?_
      refine List.perm_append_comm.trans ?_
      rw [List.singleton_append]
      refine (List.Perm.cons x (by rw [List.take_append_drop] : s.Perm (s.take j ++ s.drop j))).trans ?_
      exact List.perm_middle.symm
    have he : s.take (j - 0) ++ [x] ++ ([] ++ (s.drop j).take (s.length - j)) = s.take j ++ x :: s.drop j := by
      rw [List.take_of_length_le (l := s.drop j) (by simp)];simp
    by_cases hj0 : j = 0
    · subst hj0
      obtain ⟨f1, f2⟩ := fin (fun m y h => by simp at h)
      repeat' (first|refine Sp.h ?_|refine Lk.r rfl ?_|refine Rf.mk rfl ?_|(apply Bd.f;(focus first|assumption|omega|exact Bool.false_ne_true))|refine OpK.r rfl ?_|(apply Om.mk;(focus first|omega|(simp <;> omega)))|(refine All.mk ?_;intro _)|(apply TkA.r;(focus repeat first|exact .here|apply Take.there))|(apply Ix.q;(focus exact rfl);(focus assumption))|refine Ce.l rfl ?_|refine Ce.r ?_|refine Ch.l ⟨rfl, rfl⟩ ?_|(apply Fk.r;(focus (repeat (first|exact FillA.nil|(apply FillA.agg;(focus rfl);(focus rfl);(focus (repeat (first|exact SetAs.z|(apply SetAs.c;(focus (repeat first|assumption|exact SetA.z|apply SetA.s)))))))|(apply FillA.one;(focus rfl);(focus infer_instance);(focus (repeat first|assumption|exact SetA.z|apply SetA.s)))))))|refine Rf.mk ⟨rfl, rfl⟩ ?_|refine Rf.mk ⟨rfl, rfl, rfl⟩ ?_|(apply Jx.r;(focus exact rfl);(focus first|omega|(simp;done)|(simp;omega)))|refine Mp.same ?_|(apply Mp.lit;(focus repeat (first|exact MpL.nil|(apply MpL.cons;(focus rfl))|(apply MpL.inv;(focus repeat (first|apply LN.cons|exact LN.nil));(focus infer_instance)))))|(apply CA.draw;(focus rfl);(focus kernel_rfl);(focus kernel_rfl);(focus repeat' (first|apply ON.one|exact ON.done|exact ON.none|apply ON.alt));(focus rfl))|(apply Ov.n;(focus first|omega|(simp <;> omega)))|fail)
      all_goals rw [he]
      all_goals exact PA.lp (i + 1, _, s.take 0 ++ x :: s.drop 0) ⟨by repeat first|trivial|refine ⟨rfl,?_⟩,by repeat first|exact .nil|refine .cons (by repeat first|exact .here|apply Take.there) ?_⟩ ⟨⟨hin, by simp;omega, f1, f2⟩, by simp only;omega⟩
    · obtain ⟨y, hy⟩ := get_of (l := s) (i := j - 1) (by omega)
      have hle := less32_p x y
      have htj : s.take j = s.take (j - 1) ++ [y] := by
        have := List.take_add_one (l := s) (i := j - 1)
        rw [show j - 1 + 1 = j by omega, hy] at this
        exact this
      by_cases hxy : LtE x y
      · repeat' (first|refine Sp.h ?_|refine Lk.r rfl ?_|refine Rf.mk rfl ?_|(apply Bd.t;(focus first|assumption|omega|rfl))|refine OpK.r rfl ?_|(apply TkA.r;(focus repeat first|exact .here|apply Take.there))|(apply Ix.q;(focus exact rfl);(focus assumption))|(apply Ix.r;(focus assumption);(focus omega))|(apply At.r;(focus assumption))|refine Ch.l ⟨rfl, rfl⟩ ?_|(apply CA.draw;(focus rfl);(focus kernel_rfl);(focus kernel_rfl);(focus repeat' (first|apply ON.one|exact ON.done|exact ON.none|apply ON.alt));(focus rfl))|(apply Ov.n;(focus first|omega|(simp <;> omega)))|(apply Cl.p (hle);(focus repeat' (first|exact Lend.nil|apply Lend.keep|fail))))
        rw [show ((j : Int) - 1) = ((j - 1 : Nat) : Int) by omega]
        refine PA.lp (j - 1) ⟨by repeat first|trivial|refine ⟨rfl,?_⟩,by repeat first|exact .nil|refine .cons (by repeat first|exact .here|apply Take.there) ?_⟩ ⟨⟨by omega, fun z hz => ?_⟩, by omega⟩
        have hd : s.drop (j - 1) = y :: s.drop j := by
          have h9 := List.drop_eq_getElem_cons (l := s) (i := j - 1) (by omega)
          rw [(List.getElem?_eq_some_iff.1 hy).2, show j - 1 + 1 = j by omega] at h9
          exact h9
        rw [hd] at hz
        rcases List.mem_cons.1 hz with rfl|hz
        · exact hxy
        · exact hlt z hz
      · obtain ⟨f1, f2⟩ := fin (fun m z h => by
          rw [htj] at h
          have := List.append_inj_right' h rfl
          cases this;exact hxy)
        repeat' (first|refine Sp.h ?_|refine Lk.r rfl ?_|refine Rf.mk rfl ?_|(apply Bd.t;(focus first|assumption|omega|rfl))|(apply Bd.f;(focus first|assumption|omega|exact Bool.false_ne_true))|refine OpK.r rfl ?_|(apply Om.mk;(focus first|omega|(simp <;> omega)))|(refine All.mk ?_;intro _)|(apply TkA.r;(focus repeat first|exact .here|apply Take.there))|(apply Ix.q;(focus exact rfl);(focus assumption))|(apply Ix.r;(focus assumption);(focus omega))|(apply At.r;(focus assumption))|refine Ce.l rfl ?_|refine Ce.r ?_|refine Ch.l ⟨rfl, rfl⟩ ?_|(apply Fk.r;(focus (repeat (first|exact FillA.nil|(apply FillA.agg;(focus rfl);(focus rfl);(focus (repeat (first|exact SetAs.z|(apply SetAs.c;(focus (repeat first|assumption|exact SetA.z|apply SetA.s)))))))|(apply FillA.one;(focus rfl);(focus infer_instance);(focus (repeat first|assumption|exact SetA.z|apply SetA.s)))))))|refine Rf.mk ⟨rfl, rfl⟩ ?_|refine Rf.mk ⟨rfl, rfl, rfl⟩ ?_|(apply Jx.r;(focus exact rfl);(focus first|omega|(simp;done)|(simp;omega)))|refine Mp.same ?_|(apply Mp.lit;(focus repeat (first|exact MpL.nil|(apply MpL.cons;(focus rfl))|(apply MpL.inv;(focus repeat (first|apply LN.cons|exact LN.nil));(focus infer_instance)))))|(apply CA.draw;(focus rfl);(focus kernel_rfl);(focus kernel_rfl);(focus repeat' (first|apply ON.one|exact ON.done|exact ON.none|apply ON.alt));(focus rfl))|(apply Ov.n;(focus first|omega|(simp <;> omega)))|(apply Cl.p (hle);(focus repeat' (first|exact Lend.nil|apply Lend.keep|fail))))
        all_goals rw [he]
        all_goals exact PA.lp (i + 1, _, s.take j ++ x :: s.drop j) ⟨by repeat first|trivial|refine ⟨rfl,?_⟩,by repeat first|exact .nil|refine .cons (by repeat first|exact .here|apply Take.there) ?_⟩ ⟨⟨hin, by simp only [List.length_append, List.length_cons, List.length_take, List.length_drop];omega, f1, f2⟩, by simp only;omega⟩
  · have hie : i = l.length := by omega
    subst hie
    rw [List.take_length] at hp
    have he := ordE_uniq hu hp hs
    subst he
    repeat' (first|refine Sp.h ?_|refine Lk.r rfl ?_|refine Rf.mk rfl ?_|(apply Bd.f;(focus first|assumption|omega|exact Bool.false_ne_true))|(refine Im.mk ?_;intro _)|(apply Nm.r;focus repeat first|apply LN.cons|exact LN.nil)|fail)
    exact ⟨_, _, .one (.same (.nil (by (repeat first|exact .nil|refine .cons (by repeat first|exact .here|apply Take.there) ?_)))), _, rfl, rfl⟩
abbrev u8s (l : List Int) : AV := .sl 1 l fun x => [.val (.int .u8 x)]
set_option maxHeartbeats 4000000 in
theorem extension_o (l : List EvS) (order : List Int) (X : List EvS) (hu : Uniq l) (hl : l.length ≤ 100000) (ho : ∀ x ∈ order, 0 ≤ x ∧ x ≤ 255) (hx : ExtR order [] (ordE l) X) : CallO Tryz.prog 82 [evs l, u8s order] 37 13 X evC := by
  have hor := order32_o l hu hl
  have hol := ordE_len l
  refine CallA.of pg ord82 Tryz.func82 rfl Tryz.ntmps82 Tryz.results82 rfl fun h0 G0 O0 => ?_
  repeat' (first|refine Sp.h ?_|refine Lk.r rfl ?_|refine Rf.mk rfl ?_|fail)
  (refine Cl.use (hor) (by repeat' (first|exact Lend.nil|apply Lend.keep|fail)) .nil rfl ?_;rintro _ _ ⟨_, rfl, rfl⟩)
  repeat' (first|refine Sp.h ?_|refine Lk.r rfl ?_|refine Rf.mk rfl ?_|(refine All.mk ?_;intro _)|(apply Fk.r;(focus (repeat (first|exact FillA.nil|(apply FillA.agg;(focus rfl);(focus rfl);(focus (repeat (first|exact SetAs.z|(apply SetAs.c;(focus (repeat first|assumption|exact SetA.z|apply SetA.s)))))))|(apply FillA.one;(focus rfl);(focus infer_instance);(focus (repeat first|assumption|exact SetA.z|apply SetA.s)))))))|refine Rf.mk ⟨rfl, rfl, rfl⟩ ?_|fail)
  rename_i w v
  apply CA.retype (v := v) (m := ([] : List EvS)) (g := evC)
  focus (repeat first|exact .here|apply Take.there)
  focus rfl
  refine CA.loop (fun x : Value × Value × List EvS × List EvS => ⟨[(0, evs l), (1, u8s order), (5, .ow x.1), (6, .ow x.2.1)], [arrR x.1 37 13 x.2.2.2 evC, arrR x.2.1 37 13 x.2.2.1 evC]⟩) (fun x => ExtR order x.2.2.1 x.2.2.2 X ∧ x.2.2.1.length + x.2.2.2.length ≤ 100000) (fun x => x.2.2.2.length) (w, v, [], ordE l) ⟨by repeat first|trivial|refine ⟨rfl,?_⟩,by repeat first|exact .nil|refine .cons (by repeat first|exact .here|apply Take.there) ?_⟩ ⟨hx, by simp;omega⟩ ?_
  rintro ⟨wr, wo, out, rest⟩ ⟨hr, hlen⟩
  simp only at hr hlen
  simp only
  cases hr with
  | done =>
    have hz : ([] : List EvS).length = 0 := rfl
    repeat' (first|refine Sp.h ?_|refine Lk.r rfl ?_|refine Rf.mk rfl ?_|(apply Bd.f;(focus first|assumption|omega|exact Bool.false_ne_true))|(apply TkA.r;(focus repeat first|exact .here|apply Take.there))|(apply Nm.r;focus repeat first|apply LN.cons|exact LN.nil)|fail)
    exact ⟨_, _, .one (.same (.nil (by (repeat first|exact .nil|refine .cons (by repeat first|exact .here|apply Take.there) ?_)))), _, rfl, rfl⟩
  | @step _ _ _ e i hf hat he hr =>
    have hi := (List.getElem?_eq_some_iff.1 he).1
    repeat' (first|refine Sp.h ?_|refine Lk.r rfl ?_|refine Rf.mk rfl ?_|(apply Bd.t;(focus first|assumption|omega|rfl))|(refine All.mk ?_;intro _)|(apply TkA.r;(focus repeat first|exact .here|apply Take.there))|(apply Fk.r;(focus (repeat (first|exact FillA.nil|(apply FillA.agg;(focus rfl);(focus rfl);(focus (repeat (first|exact SetAs.z|(apply SetAs.c;(focus (repeat first|assumption|exact SetA.z|apply SetA.s)))))))|(apply FillA.one;(focus rfl);(focus infer_instance);(focus (repeat first|assumption|exact SetA.z|apply SetA.s)))))))|refine Rf.mk ⟨rfl, rfl, rfl⟩ ?_|fail)
    rename_i vf
    apply CA.retype (v := vf) (m := ([] : List Int)) (g := intC)
    focus (repeat first|exact .here|apply Take.there)
    focus rfl
    refine CA.loop (fun x : Nat × Value => ⟨[(0, evs l), (1, u8s order), (5, .ow wr), (6, .ow wo), (7, .ow x.2), (8, it x.1)], [arrR wr 37 13 rest evC, arrR wo 37 13 out evC, arrR x.2 3 1 (freeN rest x.1) intC]⟩) (fun x => x.1 ≤ rest.length) (fun x => rest.length - x.1) (0, vf) ⟨by repeat first|trivial|refine ⟨rfl,?_⟩,by repeat first|exact .nil|refine .cons (by repeat first|exact .here|apply Take.there) ?_⟩ (Nat.zero_le _) ?_
    rintro ⟨q, vf⟩ hq
    simp only at hq
    simp only
    by_cases hqn : q < rest.length
    · obtain ⟨x, hx⟩ := get_of hqn
      have hfl := free_len rest q
      repeat' (first|refine Sp.h ?_|refine Lk.r rfl ?_|refine Rf.mk rfl ?_|(apply Bd.t;(focus first|assumption|omega|rfl))|(apply TkA.r;(focus repeat first|exact .here|apply Take.there))|fail)
      refine CA.loop (fun s : Nat × Bool => ⟨[(0, evs l), (1, u8s order), (5, .ow wr), (6, .ow wo), (7, .ow vf), (8, it q), (9, bl s.2), (10, it s.1)], [arrR wr 37 13 rest evC, arrR wo 37 13 out evC, arrR vf 3 1 (freeN rest q) intC]⟩) (fun s => s.1 ≤ rest.length ∧ (s.2 = true ↔ ∀ y ∈ rest.take s.1, ¬ BefE y x)) (fun s => rest.length - s.1) (0, true) ⟨by repeat first|trivial|refine ⟨rfl,?_⟩,by repeat first|exact .nil|refine .cons (by repeat first|exact .here|apply Take.there) ?_⟩ ⟨Nat.zero_le _, by simp⟩ ?_
      rintro ⟨k, b⟩ ⟨hk, hb⟩
      simp only at hk hb
      simp only
      by_cases hkn : k < rest.length
      · obtain ⟨y, hy⟩ := get_of hkn
        have hbf := before32_p y x
        have hsu : rest.take (k + 1) = rest.take k ++ [y] := by rw [List.take_add_one, hy];rfl
        cases b
        · repeat' (first|refine Sp.h ?_|refine Lk.r rfl ?_|refine Rf.mk rfl ?_|(apply Bd.t;(focus first|assumption|omega|rfl))|refine OpK.r rfl ?_|(apply TkA.r;(focus repeat first|exact .here|apply Take.there))|(apply CA.draw;(focus rfl);(focus kernel_rfl);(focus kernel_rfl);(focus repeat' (first|apply ON.one|exact ON.done|exact ON.none|apply ON.alt));(focus rfl))|(apply Ov.n;(focus first|omega|(simp <;> omega)))|fail)
          refine PA.lp (k + 1, false) ⟨by repeat first|trivial|refine ⟨rfl,?_⟩,by repeat first|exact .nil|refine .cons (by repeat first|exact .here|apply Take.there) ?_⟩ ⟨⟨hkn, ?_⟩, by simp only;omega⟩
          simp only [Bool.false_eq_true, false_iff] at hb ⊢
          intro h
          exact hb fun z hz => h z (by rw [hsu];simp [hz])
        · repeat' (first|refine Sp.h ?_|refine Lk.r rfl ?_|refine Rf.mk rfl ?_|(apply Bd.t;(focus first|assumption|omega|rfl))|refine OpK.r rfl ?_|(apply TkA.r;(focus repeat first|exact .here|apply Take.there))|(apply Ix.q;(focus exact rfl);(focus assumption))|(apply At.r;(focus assumption))|refine Ch.l ⟨rfl, rfl⟩ ?_|(apply CA.draw;(focus rfl);(focus kernel_rfl);(focus kernel_rfl);(focus repeat' (first|apply ON.one|exact ON.done|exact ON.none|apply ON.alt));(focus rfl))|(apply Ov.n;(focus first|omega|(simp <;> omega)))|(apply Cl.p (hbf);(focus repeat' (first|exact Lend.nil|apply Lend.keep|fail))))
          refine PA.lp (k + 1, decide (¬ BefE y x)) ⟨by repeat first|trivial|refine ⟨rfl,?_⟩,by repeat first|exact .nil|refine .cons (by repeat first|exact .here|apply Take.there) ?_⟩ ⟨⟨hkn, ?_⟩, by simp only;omega⟩
          simp only [decide_eq_true_eq]
          rw [hsu]
          have hb := hb.1 rfl
          constructor
          · intro h z hz
            rcases List.mem_append.1 hz with hz|hz
            · exact hb z hz
            · rw [List.mem_singleton.1 hz];exact h
          · intro h;exact h y (by simp)
      · have hke : k = rest.length := by omega
        subst hke
        rw [List.take_length] at hb
        have hfs : freeN rest (q + 1) = freeN rest q ++ (if b = true then [(q : Int)] else []) := by
          rw [freeN, hx]
          by_cases h9 : FreeE rest x
          · rw [if_pos (hb.2 h9)];simp only [if_pos h9]
          · rw [if_neg (fun h8 => h9 (hb.1 h8))];simp only [if_neg h9]
        cases b
        · rw [if_neg (by simp), List.append_nil] at hfs
          repeat' (first|refine Sp.h ?_|refine Lk.r rfl ?_|refine Rf.mk rfl ?_|(apply Bd.f;(focus first|assumption|omega|exact Bool.false_ne_true))|(apply TkA.r;(focus repeat first|exact .here|apply Take.there))|(apply Ov.n;(focus first|omega|(simp <;> omega)))|fail)
          rw [← hfs]
          exact PA.lp (q + 1, vf) ⟨by repeat first|trivial|refine ⟨rfl,?_⟩,by repeat first|exact .nil|refine .cons (by repeat first|exact .here|apply Take.there) ?_⟩ ⟨hqn, by simp only;omega⟩
        · rw [if_pos rfl] at hfs
          repeat' (first|refine Sp.h ?_|refine Lk.r rfl ?_|refine Rf.mk rfl ?_|(apply Bd.f;(focus first|assumption|omega|exact Bool.false_ne_true))|(apply Om.mk;(focus first|omega|(simp <;> omega)))|(refine All.mk ?_;intro _)|(apply TkA.r;(focus repeat first|exact .here|apply Take.there))|refine Ce.r ?_|(apply Fk.r;(focus (repeat (first|exact FillA.nil|(apply FillA.agg;(focus rfl);(focus rfl);(focus (repeat (first|exact SetAs.z|(apply SetAs.c;(focus (repeat first|assumption|exact SetA.z|apply SetA.s)))))))|(apply FillA.one;(focus rfl);(focus infer_instance);(focus (repeat first|assumption|exact SetA.z|apply SetA.s)))))))|refine Rf.mk ⟨rfl, rfl⟩ ?_|refine Rf.mk ⟨rfl, rfl, rfl⟩ ?_|(apply Mp.lit;(focus repeat (first|exact MpL.nil|(apply MpL.cons;(focus rfl))|(apply MpL.inv;(focus repeat (first|apply LN.cons|exact LN.nil));(focus infer_instance)))))|(apply Ov.n;(focus first|omega|(simp <;> omega)))|fail)
          rw [← hfs]
          exact PA.lp (q + 1, _) ⟨by repeat first|trivial|refine ⟨rfl,?_⟩,by repeat first|exact .nil|refine .cons (by repeat first|exact .here|apply Take.there) ?_⟩ ⟨hqn, by simp only;omega⟩
    · have hqe : q = rest.length := by omega
      subst hqe
      obtain ⟨fr, hfr⟩ : ∃ fr, fr = freeN rest rest.length := ⟨_, rfl⟩
      rw [← hfr] at hf hat ⊢
      have hfl : 0 < fr.length := List.length_pos_iff.2 hf
      obtain ⟨f0, hf0⟩ := get_of (l := fr) (i := 0) hfl
      have her : [] ++ (rest.drop 0).take (i - 0) ++ (rest.drop (i + 1)).take (rest.length - (i + 1)) = rest.eraseIdx i := by
        rw [List.take_of_length_le (l := rest.drop (i + 1)) (by simp), List.eraseIdx_eq_take_drop_succ];rfl
      have hel : (rest.eraseIdx i).length + 1 = rest.length := by rw [List.length_eraseIdx, if_pos hi];omega
      by_cases hol : out.length < order.length
      · obtain ⟨o, ho1⟩ := get_of hol
        have ho2 := ho o (List.mem_of_getElem? ho1)
        have hm1 : 0 ≤ o % (fr.length : Int) := Int.emod_nonneg _ (by omega)
        have hm2 : o % (fr.length : Int) < fr.length := Int.emod_lt_of_pos _ (by omega)
        obtain ⟨y, hy⟩ := get_of (l := fr) (i := (o % (fr.length : Int)).toNat) (by omega)
        have hat : y = (i : Int) := by rw [atF, ho1] at hat;simp only at hat;rw [hy] at hat;exact hat
        subst hat
        repeat' (first|refine Sp.h ?_|refine Lk.r rfl ?_|refine Rf.mk rfl ?_|(apply Bd.t;(focus first|assumption|omega|rfl))|(apply Bd.f;(focus first|assumption|omega|exact Bool.false_ne_true))|refine OpK.r rfl ?_|(apply Om.mk;(focus first|omega|(simp <;> omega)))|(refine Im.mk ?_;intro _)|(refine All.mk ?_;intro _)|(apply TkA.r;(focus repeat first|exact .here|apply Take.there))|(apply Ix.q;(focus exact rfl);(focus assumption))|(apply Ix.r;(focus assumption);(focus omega))|(apply At.r;(focus assumption))|refine Ce.l rfl ?_|refine Ce.r ?_|refine Ch.l ⟨rfl, rfl⟩ ?_|(apply Fk.r;(focus (repeat (first|exact FillA.nil|(apply FillA.agg;(focus rfl);(focus rfl);(focus (repeat (first|exact SetAs.z|(apply SetAs.c;(focus (repeat first|assumption|exact SetA.z|apply SetA.s)))))))|(apply FillA.one;(focus rfl);(focus infer_instance);(focus (repeat first|assumption|exact SetA.z|apply SetA.s)))))))|refine Rf.mk ⟨rfl, rfl⟩ ?_|refine Rf.mk ⟨rfl, rfl, rfl⟩ ?_|(apply Jx.r;(focus exact rfl);(focus first|omega|(simp;done)|(simp;omega)))|refine Mp.same ?_|(apply Mp.lit;(focus repeat (first|exact MpL.nil|(apply MpL.cons;(focus rfl))|(apply MpL.inv;(focus repeat (first|apply LN.cons|exact LN.nil));(focus infer_instance)))))|(apply CA.draw;(focus rfl);(focus kernel_rfl);(focus kernel_rfl);(focus repeat' (first|apply ON.one|exact ON.done|exact ON.none|apply ON.alt));(focus rfl))|(apply Ov.n;(focus first|omega|(simp <;> omega)))|(apply Cvk.i64;(focus rfl);(focus omega))|fail)
        all_goals rw [her]
        all_goals exact PA.lp (_, _, out ++ [e], rest.eraseIdx i) ⟨by repeat first|trivial|refine ⟨rfl,?_⟩,by repeat first|exact .nil|refine .cons (by repeat first|exact .here|apply Take.there) ?_⟩ ⟨⟨hr, by simp only [List.length_append, List.length_cons, List.length_nil];omega⟩, by simp only;omega⟩
      · have ho1 : order[out.length]? = none := List.getElem?_eq_none (by omega)
        have hat : f0 = (i : Int) := by rw [atF, ho1] at hat;simp only at hat;rw [hf0] at hat;exact hat
        subst hat
        repeat' (first|refine Sp.h ?_|refine Lk.r rfl ?_|refine Rf.mk rfl ?_|(apply Bd.f;(focus first|assumption|omega|exact Bool.false_ne_true))|refine OpK.r rfl ?_|(apply Om.mk;(focus first|omega|(simp <;> omega)))|(refine Im.mk ?_;intro _)|(refine All.mk ?_;intro _)|(apply TkA.r;(focus repeat first|exact .here|apply Take.there))|(apply Ix.q;(focus exact rfl);(focus assumption))|(apply At.r;(focus assumption))|refine Ce.l rfl ?_|refine Ce.r ?_|refine Ch.l ⟨rfl, rfl⟩ ?_|(apply Fk.r;(focus (repeat (first|exact FillA.nil|(apply FillA.agg;(focus rfl);(focus rfl);(focus (repeat (first|exact SetAs.z|(apply SetAs.c;(focus (repeat first|assumption|exact SetA.z|apply SetA.s)))))))|(apply FillA.one;(focus rfl);(focus infer_instance);(focus (repeat first|assumption|exact SetA.z|apply SetA.s)))))))|refine Rf.mk ⟨rfl, rfl⟩ ?_|refine Rf.mk ⟨rfl, rfl, rfl⟩ ?_|(apply Jx.r;(focus exact rfl);(focus first|omega|(simp;done)|(simp;omega)))|refine Mp.same ?_|(apply Mp.lit;(focus repeat (first|exact MpL.nil|(apply MpL.cons;(focus rfl))|(apply MpL.inv;(focus repeat (first|apply LN.cons|exact LN.nil));(focus infer_instance)))))|(apply CA.draw;(focus rfl);(focus kernel_rfl);(focus kernel_rfl);(focus repeat' (first|apply ON.one|exact ON.done|exact ON.none|apply ON.alt));(focus rfl))|(apply Ov.n;(focus first|omega|(simp <;> omega)))|fail)
        all_goals rw [her]
        all_goals exact PA.lp (_, _, out ++ [e], rest.eraseIdx i) ⟨by repeat first|trivial|refine ⟨rfl,?_⟩,by repeat first|exact .nil|refine .cons (by repeat first|exact .here|apply Take.there) ?_⟩ ⟨⟨hr, by simp only [List.length_append, List.length_cons, List.length_nil];omega⟩, by simp only;omega⟩
end Go.Proofs.YtmllihbhphnolaaGreat
namespace Go.Proofs.YtmllihbhphnolaaGreat
open Go Go.CF
set_option maxRecDepth 20000
structure SuitS (m : ModS) (ld : List Int) (l : List EvS) : Prop where
  e : SuitE m l
  ne : 0 < l.length
  ln : ld.length = strF m
  ld : ∀ x ∈ ld, -1000 ≤ x ∧ x ≤ 1000
  sm : ∀ a ∈ m.acts, ∀ p ∈ a.eff.delta, -1000 ≤ p.2 ∧ p.2 ≤ 1000
theorem SuitS.smd {m : ModS} {ld : List Int} {l : List EvS} (h : SuitS m ld l) : SmD m := fun a ha => ⟨(h.e.1.eff a ha).dl, h.sm a ha⟩
set_option maxHeartbeats 8000000 in
theorem suits35_c (m : ModS) (ld : List Int) (l : List EvS) : CallF Tryz.prog 14 [mdl m, ints ld, evs l] (SuitS m ld l) := by
  have hfe := few32_c m l
  refine CallA.of pg ord14 Tryz.func14 rfl Tryz.ntmps14 Tryz.results14 rfl fun h0 G0 O0 => ?_
  repeat' (first|refine Sp.h ?_|refine Lk.r rfl ?_|refine Rf.mk rfl ?_|(refine All.mk ?_;intro _)|(apply TkB.r;(focus repeat first|exact .here|apply Take.there))|refine Ch.l ⟨rfl, rfl⟩ ?_|fail)
  rename_i b3
  (apply Cl.use (hfe);(focus repeat' (first|exact Lend.nil|apply Lend.keep|fail));(focus (repeat (first|exact Takes.nil|(apply Takes.cons;(focus repeat first|exact .here|apply Take.there)))));(focus rfl))
  rintro _ _ ⟨b, rfl, rfl, h1⟩
  cases b
  · repeat' (first|refine Sp.h ?_|refine Lk.r rfl ?_|refine Rf.mk rfl ?_|(apply Bd.f;(focus first|assumption|omega|exact Bool.false_ne_true))|(apply Nm.r;focus repeat first|apply LN.cons|exact LN.nil)|fail)
    exact ⟨_, _, .one (.same (.nil (by (repeat first|exact .nil|refine .cons (by repeat first|exact .here|apply Take.there) ?_)))), _, rfl, rfl, fun h => by cases h⟩
  obtain ⟨hm, hf⟩ := h1 rfl
  have hcl := closed_p l
  have hst := strict32_p m hm.lay
  have hmg := merged32_p m hm.lay
  by_cases hl0 : l.length = 0
  · repeat' (first|refine Sp.h ?_|refine Lk.r rfl ?_|refine Rf.mk rfl ?_|(apply Bd.t;(focus first|assumption|omega|rfl))|(refine Im.mk ?_;intro _)|(apply Nm.r;focus repeat first|apply LN.cons|exact LN.nil)|fail)
    exact ⟨_, _, .one (.same (.nil (by (repeat first|exact .nil|refine .cons (by repeat first|exact .here|apply Take.there) ?_)))), _, rfl, rfl, fun h => by cases h⟩
  by_cases hc : ClosedE l
  rotate_left
  · rw [decide_eq_false hc] at hcl
    repeat' (first|refine Sp.h ?_|refine Lk.r rfl ?_|refine Rf.mk rfl ?_|(apply Bd.t;(focus first|assumption|omega|rfl))|(apply Bd.f;(focus first|assumption|omega|exact Bool.false_ne_true))|(refine Im.mk ?_;intro _)|(apply Nm.r;focus repeat first|apply LN.cons|exact LN.nil)|(apply Cl.p (hcl);(focus ((repeat' (first|exact Lend.nil|apply Lend.keep|fail));done)))|(apply Cl.p (hst);(focus ((repeat' (first|exact Lend.nil|apply Lend.keep|fail));done))))
    exact ⟨_, _, .one (.same (.nil (by (repeat first|exact .nil|refine .cons (by repeat first|exact .here|apply Take.there) ?_)))), _, rfl, rfl, fun h => by cases h⟩
  rw [decide_eq_true hc] at hcl
  by_cases hln : ld.length = strF m
  rotate_left
  · repeat' (first|refine Sp.h ?_|refine Lk.r rfl ?_|refine Rf.mk rfl ?_|(apply Bd.t;(focus first|assumption|omega|rfl))|(apply Bd.f;(focus first|assumption|omega|exact Bool.false_ne_true))|(refine Im.mk ?_;intro _)|(apply TkB.r;(focus repeat first|exact .here|apply Take.there))|refine Ch.l ⟨rfl, rfl⟩ ?_|(apply Nm.r;focus repeat first|apply LN.cons|exact LN.nil)|(apply Cl.p (hcl);(focus ((repeat' (first|exact Lend.nil|apply Lend.keep|fail));done)))|(apply Cl.p (hst);(focus ((repeat' (first|exact Lend.nil|apply Lend.keep|fail));done))))
    exact ⟨_, _, .one (.same (.nil (by (repeat first|exact .nil|refine .cons (by repeat first|exact .here|apply Take.there) ?_)))), _, rfl, rfl, fun h => by cases h⟩
  repeat' (first|refine Sp.h ?_|refine Lk.r rfl ?_|refine Rf.mk rfl ?_|(apply Bd.t;(focus first|assumption|omega|rfl))|(apply Bd.f;(focus first|assumption|omega|exact Bool.false_ne_true))|(refine Im.mk ?_;intro _)|(apply TkB.r;(focus repeat first|exact .here|apply Take.there))|refine Ch.l ⟨rfl, rfl⟩ ?_|(apply Cl.p (hcl);(focus ((repeat' (first|exact Lend.nil|apply Lend.keep|fail));done)))|(apply Cl.p (hst);(focus ((repeat' (first|exact Lend.nil|apply Lend.keep|fail));done))))
  refine CA.loop (fun i : Nat => ⟨[(2, evs l), (3, pm b3), (40, ints ld), (41, it (ld.length : Nat)), (42, it i)], [mR b3 m]⟩) (fun i => i ≤ ld.length ∧ ∀ x ∈ ld.take i, -1000 ≤ x ∧ x ≤ 1000) (fun i => ld.length - i) 0 ⟨by repeat first|trivial|refine ⟨rfl,?_⟩,by repeat first|exact .nil|refine .cons (by repeat first|exact .here|apply Take.there) ?_⟩ ⟨Nat.zero_le _, by simp⟩ ?_
  rintro i ⟨hi, ha⟩
  by_cases hin : i < ld.length
  · obtain ⟨x, hx⟩ := get_of hin
    repeat' (first|refine Sp.h ?_|refine Lk.r rfl ?_|refine Rf.mk rfl ?_|(apply Bd.t;(focus first|assumption|omega|rfl))|(apply Bd.f;(focus first|assumption|omega|exact Bool.false_ne_true))|(refine Bd.mk ?_ ?_ <;> intro _)|(apply Ix.q;(focus exact rfl);(focus assumption))|(apply Nm.r;focus repeat first|apply LN.cons|exact LN.nil)|(apply Ov.n;(focus first|omega|(simp <;> omega)))|fail)
    all_goals first
      | exact ⟨_, _, .one (.same (.nil (by (repeat first|exact .nil|refine .cons (by repeat first|exact .here|apply Take.there) ?_)))), _, rfl, rfl, fun h => by cases h⟩
      | exact PA.lp (i + 1) ⟨by repeat first|trivial|refine ⟨rfl,?_⟩,by repeat first|exact .nil|refine .cons (by repeat first|exact .here|apply Take.there) ?_⟩ ⟨⟨hin, all_succ hx ha ⟨by omega, by omega⟩⟩, by omega⟩
  have hie : i = ld.length := by omega
  subst hie
  rw [List.take_length] at ha
  repeat' (first|refine Sp.h ?_|refine Lk.r rfl ?_|refine Rf.mk rfl ?_|(apply Bd.f;(focus first|assumption|omega|exact Bool.false_ne_true))|(refine Im.mk ?_;intro _)|fail)
  refine CA.loop (fun i : Nat => ⟨[(2, evs l), (3, pm b3), (53, evs l), (54, it (l.length : Nat)), (55, it i)], [mR b3 m]⟩) (fun i => i ≤ l.length ∧ ∀ e ∈ l.take i, EvV m (n0 l : Nat) e) (fun i => l.length - i) 0 ⟨by repeat first|trivial|refine ⟨rfl,?_⟩,by repeat first|exact .nil|refine .cons (by repeat first|exact .here|apply Take.there) ?_⟩ ⟨Nat.zero_le _, by simp⟩ ?_
  rintro i ⟨hi, hev⟩
  by_cases hin : i < l.length
  · obtain ⟨e, he⟩ := get_of hin
    obtain ⟨d, hd⟩ := get_of (l := l) (i := 0) (by omega)
    have hn : n0 l = d.past.length := by rw [n0, hd];rfl
    have hvv := evalid_p m (d.past.length : Nat) e
    by_cases hv : EvV m (d.past.length : Nat) e
    · repeat' (first|refine Sp.h ?_|refine Lk.r rfl ?_|refine Rf.mk rfl ?_|(apply Bd.t;(focus first|assumption|omega|rfl))|refine OpK.r rfl ?_|(refine Im.mk ?_;intro _)|(refine All.mk ?_;intro _)|(apply TkB.r;(focus repeat first|exact .here|apply Take.there))|(apply Ix.q;(focus exact rfl);(focus assumption))|refine Ch.l ⟨rfl, rfl⟩ ?_|(apply SetAsk.r;(focus (repeat (first|exact SetAs.z|(apply SetAs.c;(focus (repeat first|assumption|exact SetA.z|apply SetA.s)))))))|(apply Nm.r;focus repeat first|apply LN.cons|exact LN.nil)|(apply CA.draw;(focus rfl);(focus kernel_rfl);(focus kernel_rfl);(focus repeat' (first|apply ON.one|exact ON.done|exact ON.none|apply ON.alt));(focus rfl))|(apply Ov.n;(focus first|omega|(simp <;> omega)))|(apply Cl.p (hvv);(focus repeat' (first|exact Lend.nil|apply Lend.keep|fail))))
      all_goals exact PA.lp (i + 1) ⟨by repeat first|trivial|refine ⟨rfl,?_⟩,by repeat first|exact .nil|refine .cons (by repeat first|exact .here|apply Take.there) ?_⟩ ⟨⟨hin, all_succ he hev (by rw [hn];exact hv)⟩, by omega⟩
    · repeat' (first|refine Sp.h ?_|refine Lk.r rfl ?_|refine Rf.mk rfl ?_|(apply Bd.t;(focus first|assumption|omega|rfl))|(apply Bd.f;(focus first|assumption|omega|exact Bool.false_ne_true))|refine OpK.r rfl ?_|(refine Im.mk ?_;intro _)|(refine All.mk ?_;intro _)|(apply TkB.r;(focus repeat first|exact .here|apply Take.there))|(apply Ix.q;(focus exact rfl);(focus assumption))|refine Ch.l ⟨rfl, rfl⟩ ?_|(apply SetAsk.r;(focus (repeat (first|exact SetAs.z|(apply SetAs.c;(focus (repeat first|assumption|exact SetA.z|apply SetA.s)))))))|(apply Nm.r;focus repeat first|apply LN.cons|exact LN.nil)|(apply CA.draw;(focus rfl);(focus kernel_rfl);(focus kernel_rfl);(focus repeat' (first|apply ON.one|exact ON.done|exact ON.none|apply ON.alt));(focus rfl))|(apply Cl.p (hvv);(focus repeat' (first|exact Lend.nil|apply Lend.keep|fail))))
      all_goals exact ⟨_, _, .one (.same (.nil (by (repeat first|exact .nil|refine .cons (by repeat first|exact .here|apply Take.there) ?_)))), _, rfl, rfl, fun h => by cases h⟩
  have hie : i = l.length := by omega
  subst hie
  rw [List.take_length] at hev
  repeat' (first|refine Sp.h ?_|refine Lk.r rfl ?_|refine Rf.mk rfl ?_|(apply Bd.f;(focus first|assumption|omega|exact Bool.false_ne_true))|(refine Im.mk ?_;intro _)|(apply TkB.r;(focus repeat first|exact .here|apply Take.there))|fail)
  refine CA.loop (fun i : Nat => ⟨[(3, pm b3), (70, .sl 5 m.acts actC), (71, it (m.acts.length : Nat)), (72, it i)], [mR b3 m]⟩) (fun i => i ≤ m.acts.length ∧ ∀ a ∈ m.acts.take i, (∀ u ∈ a.eff.updates, ∀ (i : Nat) t, u.2.1 = i → (mrgF m)[i]? = some t → FitO t u) ∧ ∀ p ∈ a.eff.delta, -1000 ≤ p.2 ∧ p.2 ≤ 1000) (fun i => m.acts.length - i) 0 ⟨by repeat first|trivial|refine ⟨rfl,?_⟩,by repeat first|exact .nil|refine .cons (by repeat first|exact .here|apply Take.there) ?_⟩ ⟨Nat.zero_le _, by simp⟩ ?_
  rintro i ⟨hi, hac⟩
  by_cases hin : i < m.acts.length
  · obtain ⟨a, hx⟩ := get_of hin
    have heo := hm.eff a (List.mem_of_getElem? hx)
    repeat' (first|refine Sp.h ?_|refine Lk.r rfl ?_|refine Rf.mk rfl ?_|(apply Bd.t;(focus first|assumption|omega|rfl))|(refine Im.mk ?_;intro _)|(refine All.mk ?_;intro _)|(apply TkB.r;(focus repeat first|exact .here|apply Take.there))|(apply Ix.q;(focus exact rfl);(focus assumption))|refine Ch.l ⟨rfl, rfl⟩ ?_|(apply SetAsk.r;(focus (repeat (first|exact SetAs.z|(apply SetAs.c;(focus (repeat first|assumption|exact SetA.z|apply SetA.s)))))))|(apply Nm.r;focus repeat first|apply LN.cons|exact LN.nil)|fail)
    rename_i b12 _
    refine CA.loop (fun k : Nat => ⟨[(3, pm b3), (12, pm b12), (70, .sl 5 m.acts actC), (71, it (m.acts.length : Nat)), (72, it i), (78, .sl 3 a.eff.updates updC), (79, it (a.eff.updates.length : Nat)), (80, it k)], [mR b3 m, blkR b12 151 (actC a)]⟩) (fun k => k ≤ a.eff.updates.length ∧ ∀ u ∈ a.eff.updates.take k, ∀ (i : Nat) t, u.2.1 = i → (mrgF m)[i]? = some t → FitO t u) (fun k => a.eff.updates.length - k) 0 ⟨by repeat first|trivial|refine ⟨rfl,?_⟩,by repeat first|exact .nil|refine .cons (by repeat first|exact .here|apply Take.there) ?_⟩ ⟨Nat.zero_le _, by simp⟩ ?_
    rintro k ⟨hk, hb⟩
    by_cases hkn : k < a.eff.updates.length
    · obtain ⟨u, hu⟩ := get_of hkn
      obtain ⟨u1, u2⟩ := heo.u u (List.mem_of_getElem? hu)
      obtain ⟨t, ht⟩ := get_of (l := mrgF m) (i := u.2.1.toNat) (by omega)
      obtain ⟨uk, uc, uv⟩ := u
      simp only at u1 u2 ht
      (repeat' (first|(show CA _ _ (Code.region 21 _ _) _ _;apply Stopped.out)|refine Sp.h ?_|refine Lk.r rfl ?_|refine Rf.mk rfl ?_|(apply Bd.t;(focus first|assumption|omega|rfl))|(refine All.mk ?_;intro _)|(apply TkB.r;(focus repeat first|exact .here|apply Take.there))|(apply Ix.q;(focus exact rfl);(focus assumption))|refine Ch.l ⟨rfl, rfl⟩ ?_|(apply SetAsk.r;(focus (repeat (first|exact SetAs.z|(apply SetAs.c;(focus (repeat first|assumption|exact SetA.z|apply SetA.s)))))))|(apply Nm.r;focus repeat first|apply LN.cons|exact LN.nil)|fail));any_goals apply Stopped.mk
      rename_i b14
      refine CA.cut (fun b15 : Nat => ⟨[(3, pm b3), (12, pm b12), (14, pm b14), (15, pm b15), (70, .sl 5 m.acts actC), (71, it (m.acts.length : Nat)), (72, it i), (78, .sl 3 a.eff.updates updC), (79, it (a.eff.updates.length : Nat)), (80, it k)], [mR b3 m, blkR b12 151 (actC a), blkR b14 153 (updC (uk, uc, uv)), blkR b15 157 (tblC t)]⟩) (fun _ => True) ?_ ?_
      · repeat' (first|refine Sp.h ?_|refine Lk.r rfl ?_|refine Rf.mk rfl ?_|refine OpK.r rfl ?_|(refine All.mk ?_;intro _)|(apply TkB.r;(focus repeat first|exact .here|apply Take.there))|(apply Ix.r;(focus assumption);(focus omega))|refine Ch.l ⟨rfl, rfl⟩ ?_|(apply SetAsk.r;(focus (repeat (first|exact SetAs.z|(apply SetAs.c;(focus (repeat first|assumption|exact SetA.z|apply SetA.s)))))))|(apply Nm.r;focus repeat first|apply LN.cons|exact LN.nil)|(apply CA.draw;(focus rfl);(focus kernel_rfl);(focus kernel_rfl);(focus repeat' (first|apply ON.one|exact ON.done|exact ON.none|apply ON.alt));(focus rfl))|exact trivial|apply RA'.both|(apply Cl.p (hmg);(focus repeat' (first|exact Lend.nil|apply Lend.keep|fail))))
        all_goals exact PA.lp _ ⟨by repeat first|trivial|refine ⟨rfl,?_⟩,by repeat first|exact .nil|refine .cons (by repeat first|exact .here|apply Take.there) ?_⟩ trivial
      intro b15 _
      simp only
      (repeat' (first|(show CA _ _ (Code.region 22 _ _) _ _;apply Stopped.out)|refine Sp.h ?_|fail));any_goals apply Stopped.mk
      refine CA.cut (fun b : Bool => ⟨[(3, pm b3), (12, pm b12), (14, pm b14), (15, pm b15), (16, bl b), (70, .sl 5 m.acts actC), (71, it (m.acts.length : Nat)), (72, it i), (78, .sl 3 a.eff.updates updC), (79, it (a.eff.updates.length : Nat)), (80, it k)], [mR b3 m, blkR b12 151 (actC a), blkR b14 153 (updC (uk, uc, uv)), blkR b15 157 (tblC t)]⟩) (fun b => b = true ↔ isSt t.kind) ?_ ?_
      · repeat' (first|refine Sp.h ?_|refine Lk.r rfl ?_|refine Rf.mk rfl ?_|(apply Bd.t;(focus first|assumption|omega|rfl))|(apply Bd.f;(focus first|assumption|omega|exact Bool.false_ne_true))|(refine Bd.mk ?_ ?_ <;> intro _)|(apply TkB.r;(focus repeat first|exact .here|apply Take.there))|fail)
        all_goals exact PA.lp _ ⟨by repeat first|trivial|refine ⟨rfl,?_⟩,by repeat first|exact .nil|refine .cons (by repeat first|exact .here|apply Take.there) ?_⟩ (by unfold isSt;simp;omega)
      rintro b hb1
      simp only
      (repeat' (first|(show CA _ _ (Code.region 23 _ _) _ _;apply Stopped.out)|refine Sp.h ?_|fail));any_goals apply Stopped.mk
      refine CA.cut (fun c : Bool => ⟨[(3, pm b3), (12, pm b12), (70, .sl 5 m.acts actC), (71, it (m.acts.length : Nat)), (72, it i), (78, .sl 3 a.eff.updates updC), (79, it (a.eff.updates.length : Nat)), (80, it k), (127, bl c)], [mR b3 m, blkR b12 151 (actC a)]⟩) (fun c => c = false → FitO t (uk, uc, uv)) ?_ ?_
      · have hf : FitO t (uk, uc, uv) ↔ (b = true ↔ uk = 0 ∨ uk = 1) ∧ (b ≠ true → t.lo ≤ uv ∧ uv ≤ t.hi) := by unfold FitO;simp only;rw [← hb1]
        cases b
        all_goals repeat' (first|refine Sp.h ?_|refine Lk.r rfl ?_|refine Rf.mk rfl ?_|(apply Bd.t;(focus first|assumption|omega|rfl))|(apply Bd.f;(focus first|assumption|omega|exact Bool.false_ne_true))|(refine Bd.mk ?_ ?_ <;> intro _)|(apply TkB.r;(focus repeat first|exact .here|apply Take.there))|fail)
        all_goals exact PA.lp _ ⟨by repeat first|trivial|refine ⟨rfl,?_⟩,by repeat first|exact .nil|refine .cons (by repeat first|exact .here|apply Take.there) ?_⟩ (by rw [hf];first|(simp;done)|(simp;omega)|(simp at *;omega))
      rintro c hc
      simp only
      cases c
      · repeat' (first|refine Sp.h ?_|refine Lk.r rfl ?_|refine Rf.mk rfl ?_|(apply Ov.n;(focus first|omega|(simp <;> omega)))|fail)
        refine PA.lp (k + 1) ⟨by repeat first|trivial|refine ⟨rfl,?_⟩,by repeat first|exact .nil|refine .cons (by repeat first|exact .here|apply Take.there) ?_⟩ ⟨⟨hkn, all_succ hu hb fun j t' hj ht' => ?_⟩, by omega⟩
        have : uc.toNat = j := by simp only at hj;omega
        rw [this] at ht
        rw [ht] at ht';cases ht'
        exact hc rfl
      · repeat' (first|refine Sp.h ?_|refine Lk.r rfl ?_|refine Rf.mk rfl ?_|(apply Nm.r;focus repeat first|apply LN.cons|exact LN.nil)|fail)
        exact ⟨_, _, .one (.same (.nil (by (repeat first|exact .nil|refine .cons (by repeat first|exact .here|apply Take.there) ?_)))), _, rfl, rfl, fun h => by cases h⟩
    have hke : k = a.eff.updates.length := by omega
    subst hke
    rw [List.take_length] at hb
    repeat' (first|refine Sp.h ?_|refine Lk.r rfl ?_|refine Rf.mk rfl ?_|(apply Bd.f;(focus first|assumption|omega|exact Bool.false_ne_true))|(refine Im.mk ?_;intro _)|(apply TkB.r;(focus repeat first|exact .here|apply Take.there))|fail)
    refine CA.loop (fun k : Nat => ⟨[(3, pm b3), (70, .sl 5 m.acts actC), (71, it (m.acts.length : Nat)), (72, it i), (131, terms a.eff.delta), (132, it (a.eff.delta.length : Nat)), (133, it k)], [mR b3 m]⟩) (fun k => k ≤ a.eff.delta.length ∧ ∀ p ∈ a.eff.delta.take k, -1000 ≤ p.2 ∧ p.2 ≤ 1000) (fun k => a.eff.delta.length - k) 0 ⟨by repeat first|trivial|refine ⟨rfl,?_⟩,by repeat first|exact .nil|refine .cons (by repeat first|exact .here|apply Take.there) ?_⟩ ⟨Nat.zero_le _, by simp⟩ ?_
    rintro k ⟨hk2, hd⟩
    by_cases hkn : k < a.eff.delta.length
    · obtain ⟨p, hp⟩ := get_of hkn
      repeat' (first|refine Sp.h ?_|refine Lk.r rfl ?_|refine Rf.mk rfl ?_|(apply Bd.t;(focus first|assumption|omega|rfl))|(apply Bd.f;(focus first|assumption|omega|exact Bool.false_ne_true))|(refine Bd.mk ?_ ?_ <;> intro _)|(refine All.mk ?_;intro _)|(apply TkB.r;(focus repeat first|exact .here|apply Take.there))|(apply Ix.q;(focus exact rfl);(focus assumption))|refine Ch.l ⟨rfl, rfl⟩ ?_|(apply SetAsk.r;(focus (repeat (first|exact SetAs.z|(apply SetAs.c;(focus (repeat first|assumption|exact SetA.z|apply SetA.s)))))))|(apply Nm.r;focus repeat first|apply LN.cons|exact LN.nil)|(apply Ov.n;(focus first|omega|(simp <;> omega)))|fail)
      all_goals first
        | exact ⟨_, _, .one (.same (.nil (by (repeat first|exact .nil|refine .cons (by repeat first|exact .here|apply Take.there) ?_)))), _, rfl, rfl, fun h => by cases h⟩
        | exact PA.lp (k + 1) ⟨by repeat first|trivial|refine ⟨rfl,?_⟩,by repeat first|exact .nil|refine .cons (by repeat first|exact .here|apply Take.there) ?_⟩ ⟨⟨hkn, all_succ hp hd ⟨by omega, by omega⟩⟩, by omega⟩
    have hke : k = a.eff.delta.length := by omega
    subst hke
    rw [List.take_length] at hd
    repeat' (first|refine Sp.h ?_|refine Lk.r rfl ?_|refine Rf.mk rfl ?_|(apply Bd.f;(focus first|assumption|omega|exact Bool.false_ne_true))|(apply Ov.n;(focus first|omega|(simp <;> omega)))|fail)
    exact PA.lp (i + 1) ⟨by repeat first|trivial|refine ⟨rfl,?_⟩,by repeat first|exact .nil|refine .cons (by repeat first|exact .here|apply Take.there) ?_⟩ ⟨⟨hin, all_succ hx hac ⟨hb, hd⟩⟩, by omega⟩
  have hie : i = m.acts.length := by omega
  subst hie
  rw [List.take_length] at hac
  repeat' (first|refine Sp.h ?_|refine Lk.r rfl ?_|refine Rf.mk rfl ?_|(apply Bd.f;(focus first|assumption|omega|exact Bool.false_ne_true))|(apply Nm.r;focus repeat first|apply LN.cons|exact LN.nil)|fail)
  exact ⟨_, _, .one (.same (.nil (by (repeat first|exact .nil|refine .cons (by repeat first|exact .here|apply Take.there) ?_)))), _, rfl, rfl, fun _ => ⟨⟨hm, hf, hc, fun a h => (hac a h).1, hev⟩, by omega, hln, ha, fun a h => (hac a h).2⟩⟩
end Go.Proofs.YtmllihbhphnolaaGreat
namespace Go.Proofs.YtmllihbhphnolaaGreat
open Go Go.CF
set_option maxRecDepth 20000
noncomputable def stN (m : ModS) (n : Nat) (ld : List Int) (X : List EvS) : NowS := ⟨clkE n X, X.foldl (fun t e => max t e.time) 0, X.foldl (addE m) ld, X.foldl (mrg1 m) (List.replicate (mrgF m).length mg0), X.foldl plE []⟩
theorem deliver_st {m : ModS} {evl : List EvS} {w : NowS} {e : EvS} (h : (deliverF m evl w e).1 = 0) : (deliverF m evl w e).2 = ⟨cntF w.clock e, max w.time e.time, addE m w.state e, (applyF m w.merged e).2, plE w.places e⟩ := by
  unfold deliverF at h ⊢
  repeat' split
  all_goals first
    | rfl
    | (exfalso;simp_all;done)
theorem stN_snoc (m : ModS) (n : Nat) (ld : List Int) (X : List EvS) (e : EvS) : stN m n ld (X ++ [e]) = ⟨cntF (stN m n ld X).clock e, max (stN m n ld X).time e.time, addE m (stN m n ld X).state e, (applyF m (stN m n ld X).merged e).2, plE (stN m n ld X).places e⟩ := by
  simp only [stN, clkE, List.foldl_append, List.foldl_cons, List.foldl_nil, cntF, mrg1]
theorem plL_len (l : List EvS) : (plL l).length ≤ l.length := by unfold plL;rw [List.length_map];exact List.length_filter_le _ _
theorem foldE_len (m : ModS) (X : List EvS) : ∀ ld : List Int, (X.foldl (addE m) ld).length = ld.length := by
  induction X with
  | nil => exact fun _ => rfl
  | cons e X ih => intro ld;rw [List.foldl_cons, ih, addE_len]
theorem stN_ok {m : ModS} {l X : List EvS} {ld : List Int} (hs : SuitS m ld l) (hX : ∀ e ∈ X, e ∈ l) (hl : X.length ≤ 1000) : NowOK m (stN m (n0 l) ld X) := by
  obtain ⟨e, he⟩ := get_of (l := l) (i := 0) hs.ne
  have hr := n0_rng hs.e.2.2.1 (List.mem_of_getElem? he)
  refine ⟨clk_valC hs.e.2.2.1 hX hr, by simp only [stN, foldE_len];exact hs.ln, ?_, ?_⟩
  · simp only [stN, places_srt];exact (srtD_si _).1
  · simp only [stN, places_srt]
    have := srtD_len (plL X);have := plL_len X
    omega
theorem fill_sto {m : ModS} {l X : List EvS} {ld : List Int} (hs : SuitS m ld l) (hl : X.length ≤ 100) (hX : ExtO l X) : ∀ i, i ≤ X.length → StoA m l ld (X.take i) (stN m (n0 l) ld (X.take i)) ∧ ∀ e, X[i]? = some e → deliverF m (X.take i) (stN m (n0 l) ld (X.take i)) e = (0, stN m (n0 l) ld (X.take (i + 1))) := by
  have step : ∀ i e, X[i]? = some e → StoA m l ld (X.take i) (stN m (n0 l) ld (X.take i)) → deliverF m (X.take i) (stN m (n0 l) ld (X.take i)) e = (0, stN m (n0 l) ld (X.take (i + 1))) ∧ StoA m l ld (X.take (i + 1)) (stN m (n0 l) ld (X.take (i + 1))) := by
    intro i e he hst
    have hil := (List.getElem?_eq_some_iff.1 he).1
    have hel := hX.sub e (List.mem_of_getElem? he)
    obtain ⟨h1, h2⟩ := hX.nxt i e he
    obtain ⟨w', d1, d2⟩ := deliver_ok hs.e (by have := hs.e.2.1.1;omega) hs.smd hs.ld hst (by rw [List.length_take];omega) (hX.cau i) hel h1 h2
    have hsu : X.take (i + 1) = X.take i ++ [e] := by rw [List.take_add_one, he];rfl
    have hw : w' = stN m (n0 l) ld (X.take (i + 1)) := by
      have := deliver_st (m := m) (evl := X.take i) (w := stN m (n0 l) ld (X.take i)) (e := e) (by rw [d1])
      rw [d1] at this
      rw [hsu, stN_snoc]
      exact this
    rw [hw] at d1 d2
    rw [← hsu] at d2
    exact ⟨d1, d2⟩
  intro i
  induction i with
  | zero =>
    intro _
    have h0 : StoA m l ld (X.take 0) (stN m (n0 l) ld (X.take 0)) := sto0 m l ld
    exact ⟨h0, fun e he => (step 0 e he h0).1⟩
  | succ i ih =>
    intro hi
    obtain ⟨e, he⟩ := get_of (l := X) (i := i) (by omega)
    have h1 := (step i e he (ih (by omega)).1).2
    exact ⟨h1, fun d hd => (step (i + 1) d hd h1).1⟩
theorem insS_ld {ld : List Int} (h : ∀ x ∈ ld, -1000 ≤ x ∧ x ≤ 1000) : insS ld := fun x hx => by have := h x hx;omega
set_option maxHeartbeats 4000000 in
theorem fill_a (m : ModS) (ld : List Int) (l : List EvS) (order : List Int) (X : List EvS) (hs : SuitS m ld l) (ho : ∀ x ∈ order, 0 ≤ x ∧ x ≤ 255) (hx : ExtR order [] (ordE l) X) (hX : ExtO l X) (hp : X.Perm l) :
    CallA Tryz.prog 15 [mdl m, ints ld, evs l, u8s order] [] fun q own => ∃ p v, q = pm p ∧ own = [stoR p m (stN m (n0 l) ld []) v (stN m (n0 l) ld X), arrR v 37 13 X evC] := by
  obtain ⟨d, hd⟩ := get_of (l := l) (i := 0) hs.ne
  have hn : n0 l = d.past.length := by rw [n0, hd];rfl
  have hr := n0_rng hs.e.2.2.1 (List.mem_of_getElem? hd)
  have hl60 := hs.e.2.1.1
  have hXl := hp.length_eq
  have hne := hs.ne
  have h1 := new35_a m (n0 l) ld hs.e.1 hr hs.ln (insS_ld hs.ld)
  rw [hn] at h1
  have h2 := extension_o l order X hs.e.2.2.1.2.1 (by omega) ho hx
  refine CallA.of pg ord15 Tryz.func15 rfl Tryz.ntmps15 Tryz.results15 rfl fun h0 G0 O0 => ?_
  repeat' (first|refine Sp.h ?_|refine Lk.r rfl ?_|refine Rf.mk rfl ?_|(apply Bd.f;(focus first|assumption|omega|exact Bool.false_ne_true))|refine OpK.r rfl ?_|(refine Im.mk ?_;intro _)|(refine All.mk ?_;intro _)|(apply TkB.r;(focus repeat first|exact .here|apply Take.there))|(apply Ix.q;(focus exact rfl);(focus assumption))|refine Ch.l ⟨rfl, rfl⟩ ?_|(apply CA.draw;(focus rfl);(focus kernel_rfl);(focus kernel_rfl);(focus repeat' (first|apply ON.one|exact ON.done|exact ON.none|apply ON.alt));(focus rfl))|fail)
  (apply Cl.use (h1);(focus repeat' (first|exact Lend.nil|apply Lend.keep|fail));(focus (repeat (first|exact Takes.nil|(apply Takes.cons;(focus repeat first|exact .here|apply Take.there)))));(focus rfl))
  rintro _ _ ⟨p, v, rfl, rfl⟩
  repeat' (first|refine Sp.h ?_|refine Lk.r rfl ?_|refine Rf.mk rfl ?_|(apply Bd.t;(focus first|assumption|omega|rfl))|refine OpK.r rfl ?_|fail)
  (apply Cl.use (h2);(focus repeat' (first|exact Lend.nil|apply Lend.keep|fail));(focus (repeat (first|exact Takes.nil|(apply Takes.cons;(focus repeat first|exact .here|apply Take.there)))));(focus rfl))
  rintro _ _ ⟨vx, rfl, rfl⟩
  repeat' (first|refine Sp.h ?_|refine Lk.r rfl ?_|(apply TkA.r;(focus repeat first|exact .here|apply Take.there))|fail)
  refine CA.loop (fun x : Nat × Value => ⟨[(9, pm p), (31, .ow vx), (32, it (X.length : Nat)), (33, it x.1)], [stoR p m (stN m (n0 l) ld []) x.2 (stN m (n0 l) ld (X.take x.1)), arrR x.2 37 13 (X.take x.1) evC, arrR vx 37 13 X evC]⟩) (fun x => x.1 ≤ X.length) (fun x => X.length - x.1) (0, v) ?_ (Nat.zero_le _) ?_
  · rw [hn];exact ⟨by repeat first|trivial|refine ⟨rfl,?_⟩,by repeat first|exact .nil|refine .cons (by repeat first|exact .here|apply Take.there) ?_⟩
  rintro ⟨i, u⟩ hi
  simp only at hi
  simp only
  obtain ⟨f1, f2⟩ := fill_sto hs (by omega) hX i hi
  by_cases hin : i < X.length
  · obtain ⟨e, he⟩ := get_of hin
    have hdl := deliver_a p m (stN m (n0 l) ld []) u (X.take i) (stN m (n0 l) ld (X.take i)) e hs.e.1 (stN_ok hs (fun e he => hX.sub e (List.mem_of_mem_take he)) (by rw [List.length_take];omega)) (by rw [List.length_take];omega)
    rw [evsD, f2 e he, if_pos rfl] at hdl
    have hsu : X.take (i + 1) = X.take i ++ [e] := by rw [List.take_add_one, he];rfl
    rw [← hsu] at hdl
    repeat' (first|refine Sp.h ?_|refine Lk.r rfl ?_|refine Rf.mk rfl ?_|(apply Bd.t;(focus first|assumption|omega|rfl))|(refine All.mk ?_;intro _)|(apply TkA.r;(focus repeat first|exact .here|apply Take.there))|(apply TkB.r;(focus repeat first|exact .here|apply Take.there))|(apply Ix.q;(focus exact rfl);(focus assumption))|(apply At.r;(focus assumption))|refine Ch.l ⟨rfl, rfl⟩ ?_|(apply SetAsk.r;(focus (repeat (first|exact SetAs.z|(apply SetAs.c;(focus (repeat first|assumption|exact SetA.z|apply SetA.s)))))))|(apply Nm.r;focus repeat first|apply LN.cons|exact LN.nil)|fail)
    (apply Cl.use (hdl);(focus repeat' (first|exact Lend.nil|apply Lend.keep|fail));(focus (repeat (first|exact Takes.nil|(apply Takes.cons;(focus repeat first|exact .here|apply Take.there)))));(focus rfl))
    rintro _ _ ⟨rfl, u', rfl⟩
    repeat' (first|refine Sp.h ?_|refine Lk.r rfl ?_|refine Rf.mk rfl ?_|(apply Bd.t;(focus first|assumption|omega|rfl))|(apply Ov.n;(focus first|omega|(simp <;> omega)))|fail)
    exact PA.lp (i + 1, u') ⟨by repeat first|trivial|refine ⟨rfl,?_⟩,by repeat first|exact .nil|refine .cons (by repeat first|exact .here|apply Take.there) ?_⟩ ⟨hin, by simp only;omega⟩
  · have hie : i = X.length := by omega
    subst hie
    simp only [List.take_length]
    repeat' (first|refine Sp.h ?_|refine Lk.r rfl ?_|refine Rf.mk rfl ?_|(apply Bd.f;(focus first|assumption|omega|exact Bool.false_ne_true))|(apply Nm.r;focus repeat first|apply LN.cons|exact LN.nil)|fail)
    exact ⟨_, _, .one (.same (.nil (by (repeat first|exact .nil|refine .cons (by repeat first|exact .here|apply Take.there) ?_)))), p, u, rfl, rfl⟩
end Go.Proofs.YtmllihbhphnolaaGreat
