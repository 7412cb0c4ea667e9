/- Part 11 of the ground of this proof: what its texts say of the model, the program and the plain data; conditions: those that are named. -/
import Derived.Test.YtmllihbhphnolaaGreatH10
namespace Go.Proofs.YtmllihbhphnolaaGreat
open Go Go.CF
set_option maxRecDepth 20000
theorem cmp2_neg {a b : MkS} : cmp2 a b < 0 ↔ a.time < b.time ∨ a.time = b.time ∧ a.rep < b.rep := by
 unfold cmp2 orI cmpI
 by_cases h1 : a.time < b.time
 ·simp [h1]
 by_cases h2 : b.time < a.time
 ·simp [h1, h2];omega
 have h3 : a.time = b.time := by omega
 by_cases h4 : a.rep < b.rep
 ·simp [h3, h4]
 by_cases h5 : b.rep < a.rep
 ·simp [h3, h4, h5]
 have h6 : a.rep = b.rep := by omega
 simp [h3, h6]
def Kd (t : TblS) : Prop := t.kind = 2 ∨ t.kind = 3 ∨ t.kind = 4 ∨ t.kind = 5
theorem cell_step {m : ModS} {t : TblS} {i : Nat} {P : List EvS} {g : MgS} {e : EvS} (hk : Kd t) (h : Kn m t i P g) (hl : g.marks.length < 1024) (hn : Nxt P e) :
  ∃ g', cellF e t (updE m e i) g = (0, g') ∧ Kn m t i (P ++ [e]) g' ∧ g'.marks.length ≤ g.marks.length + 1 := by
 cases hu : updE m e i with
 | none =>
  refine ⟨g, rfl, ⟨?_, h.drop, h.srt, fun k4 => ?_, fun k4 x => ?_⟩, by omega⟩
  ·rw [putP_snoc, hu];simp [h.put]
  ·have he : ∀ x, Asg m t i (P ++ [e]) x ↔ Asg m t i P x := fun x => by rw [asg_snoc, hu];simp
   rcases h.four k4 with ⟨h1, h2⟩|⟨x, h1, h2, h3⟩
   ·exact .inl ⟨h1, fun x hx => h2 x ((he x).1 hx)⟩
   ·exact .inr ⟨x, h1, (he x).2 h2, fun y hy => h3 y ((he y).1 hy)⟩
  ·rw [liv_snoc hn, hu];simp [h.liv k4]
 | some u =>
  have hno : ¬ HasNm g.marks (mkE t e u) := fun ⟨x, hx, hxn⟩ => by
   obtain ⟨p, hp, w, _, _, rfl⟩ := h.mem hx
   exact hn.nm p hp hxn
  have hadd : addF g.marks (mkE t e u) = (0, insK g.marks (mkE t e u)) := by rw [addF, if_neg hno, if_neg (by omega)]
  have hil : ∀ (l : List MkS) x, (insK l x).length = l.length + 1 := fun l x => by
   have := posK_le l x
   simp [insK];omega
  obtain ⟨i1, i2⟩ := ins_lt h.srt hno
  have hfl : ∀ c, (fgK c g.marks).length ≤ g.marks.length := fun c => List.length_filter_le _ _
  have hfm : ∀ c x, x ∈ fgK c g.marks ↔ x ∈ g.marks ∧ ¬ HasC c x.rep x.num := fun c x => by simp [fgK, List.mem_filter]
  have hput : t.kind ≠ 3 → g.put = false := fun h3 => by
   have := h.put
   cases hp : g.put
   ·rfl
   ·exact absurd (this.1 hp).1 h3
  have hmk : mkE t e u = ⟨e.rep, e.num, e.time, if isReg t.kind then u.2.2 else 0⟩ := rfl
  have hlv : ∀ x, Liv m t i (P ++ [e]) x ↔ (Liv m t i P x ∧ (u.1 = kK t.kind → ¬ HasC e.past x.rep x.num)) ∨ (u.1 = bK t.kind ∧ x = mkE t e u) := fun x => by
   rw [liv_snoc hn, hu];simp
  have hpt : PutP m t i (P ++ [e]) ↔ PutP m t i P ∨ t.kind = 3 ∧ u.1 = 0 := by rw [putP_snoc, hu];simp
  have hsame : cellF e t (some u) g = (0, g) → (t.kind ≠ 4 → u.1 ≠ bK t.kind ∧ u.1 ≠ kK t.kind) → (t.kind = 4 → u.1 ≠ 2) → (t.kind = 3 → u.1 ≠ 0) → ∃ g', cellF e t (some u) g = (0, g') ∧ Kn m t i (P ++ [e]) g' ∧ g'.marks.length ≤ g.marks.length + 1 := fun h1 h2 h3 h4 => by
   refine ⟨g, h1, ⟨?_, h.drop, h.srt, fun k4 => ?_, fun k4 x => ?_⟩, by omega⟩
   ·rw [hpt, h.put];exact ⟨.inl, fun h => h.elim id fun h => absurd h.2 (h4 h.1)⟩
   ·have hb : bK t.kind = 2 := by rw [k4];rfl
    have he : ∀ x, Asg m t i (P ++ [e]) x ↔ Asg m t i P x := fun x => by
     rw [asg_snoc, hu]
     refine ⟨fun h => h.elim id fun ⟨w, hw, hw2, _⟩ => ?_, .inl⟩
     cases hw
     exact absurd (hw2.trans hb) (h3 k4)
    rcases h.four k4 with ⟨h1, h2⟩|⟨x, h1, h2, h3⟩
    ·exact .inl ⟨h1, fun x hx => h2 x ((he x).1 hx)⟩
    ·exact .inr ⟨x, h1, (he x).2 h2, fun y hy => h3 y ((he y).1 hy)⟩
   ·rw [hlv, h.liv k4]
    exact ⟨fun h9 => .inl ⟨h9, fun h => absurd h (h2 k4).2⟩, fun h9 => h9.elim (·.1) fun h => absurd h.1 (h2 k4).1⟩
  rcases hk with k|k|k|k
  ·have nb : bK t.kind = 0 := by rw [k];rfl
   have nk : kK t.kind = 1 := by rw [k];rfl
   by_cases u0 : u.1 = 0
   ·refine ⟨⟨g.put, g.drop, insK g.marks (mkE t e u)⟩, ?_, ⟨?_, h.drop, i1, fun k4 => by omega, fun _ x => ?_⟩, by simp [hil]⟩
    ·simp only [cellF, k, u0, true_and, true_or, if_true]
     rw [← k, ← hmk, hadd]
    ·rw [hpt, h.put];exact ⟨.inl, fun h => h.elim id fun h => by omega⟩
    ·rw [hlv]
     show x ∈ insK g.marks (mkE t e u) ↔ _
     rw [i2, h.liv (by omega)]
     exact ⟨fun h9 => h9.elim (fun h9 => .inl ⟨h9, fun h => by omega⟩) fun h9 => .inr ⟨by omega, h9⟩, fun h9 => h9.elim (fun h9 => .inl h9.1) fun h9 => .inr h9.2⟩
   by_cases u1 : u.1 = 1
   ·refine ⟨⟨false, g.drop, fgK e.past g.marks⟩, ?_, ⟨?_, h.drop, h.srt.filter _, fun k4 => by omega, fun _ x => ?_⟩, by simp only;have := hfl e.past;omega⟩
    ·simp [cellF, k, u1]
    ·rw [hpt, ← h.put, hput (by omega)]
     simp only [Bool.false_eq_true, false_or, false_iff]
     omega
    ·rw [hlv]
     show x ∈ fgK e.past g.marks ↔ _
     rw [hfm, h.liv (by omega)]
     exact ⟨fun h9 => .inl ⟨h9.1, fun _ => h9.2⟩, fun h9 => h9.elim (fun h9 => ⟨h9.1, h9.2 (by omega)⟩) fun h9 => by omega⟩
   ·exact hsame (by simp [cellF, k, u0, u1]) (fun _ => ⟨by omega, by omega⟩) (fun h => by omega) (fun h => by omega)
  ·have nb : bK t.kind = 1 := by rw [k];rfl
   have nk : kK t.kind = 0 := by rw [k];rfl
   by_cases u1 : u.1 = 1
   ·refine ⟨⟨g.put, g.drop, insK g.marks (mkE t e u)⟩, ?_, ⟨?_, h.drop, i1, fun k4 => by omega, fun _ x => ?_⟩, by simp [hil]⟩
    ·simp only [cellF, k, u1, true_and, or_true, if_true]
     rw [← k, ← hmk, hadd]
    ·rw [hpt, h.put];exact ⟨.inl, fun h => h.elim id fun h => by omega⟩
    ·rw [hlv]
     show x ∈ insK g.marks (mkE t e u) ↔ _
     rw [i2, h.liv (by omega)]
     exact ⟨fun h9 => h9.elim (fun h9 => .inl ⟨h9, fun h => by omega⟩) fun h9 => .inr ⟨by omega, h9⟩, fun h9 => h9.elim (fun h9 => .inl h9.1) fun h9 => .inr h9.2⟩
   by_cases u0 : u.1 = 0
   ·refine ⟨⟨true, false, fgK e.past g.marks⟩, ?_, ⟨?_, rfl, h.srt.filter _, fun k4 => by omega, fun _ x => ?_⟩, by simp only;have := hfl e.past;omega⟩
    ·simp [cellF, k, u0]
    ·rw [hpt];simp [k, u0]
    ·rw [hlv]
     show x ∈ fgK e.past g.marks ↔ _
     rw [hfm, h.liv (by omega)]
     exact ⟨fun h9 => .inl ⟨h9.1, fun _ => h9.2⟩, fun h9 => h9.elim (fun h9 => ⟨h9.1, h9.2 (by omega)⟩) fun h9 => by omega⟩
   ·exact hsame (by simp [cellF, k, u0, u1]) (fun _ => ⟨by omega, by omega⟩) (fun h => by omega) (fun _ => u0)
  ·have nb : bK t.kind = 2 := by rw [k];rfl
   by_cases u2 : u.1 = 2
   ·have hc : ∀ q, lastF g.marks (mkE t e u) = (0, q) → cellF e t (some u) g = (0, ⟨g.put, g.drop, q⟩) := fun q hq => by
     simp only [cellF, k, u2]
     rw [← k, ← hmk, hq];simp [k]
    have hx : ∀ x, Asg m t i (P ++ [e]) x ↔ Asg m t i P x ∨ x = mkE t e u := fun x => by rw [asg_snoc, hu];simp [nb, u2]
    have hpp : g.put = true ↔ PutP m t i (P ++ [e]) := by rw [hpt, h.put];exact ⟨.inl, fun h => h.elim id fun h => by omega⟩
    rcases h.four k with ⟨h1, h2⟩|⟨x, h1, h2, h3⟩
    ·refine ⟨⟨g.put, g.drop, [mkE t e u]⟩, hc _ ?_, ⟨hpp, h.drop, by simp, fun _ => .inr ⟨_, rfl, (hx _).2 (.inr rfl), fun y hy => ?_⟩, fun h => absurd k h⟩, by simp⟩
     ·rw [h1] at hadd ⊢
      rw [lastF, hadd]
      simp [insK, posK, idxN]
     ·rcases (hx y).1 hy with hy|rfl
      ·exact absurd hy (h2 y)
      ·exact fun h => LtK_asymm _ _ h h
    ·by_cases hc2 : cmp2 x (mkE t e u) < 0
     ·have hlt : LtK x (mkE t e u) := by have := cmp2_neg.1 hc2;unfold LtK;omega
      refine ⟨⟨g.put, g.drop, [mkE t e u]⟩, hc _ (by rw [h1, lastF, if_pos hc2]), ⟨hpp, h.drop, by simp, fun _ => .inr ⟨_, rfl, (hx _).2 (.inr rfl), fun y hy h9 => ?_⟩, fun h => absurd k h⟩, by simp⟩
      rcases (hx y).1 hy with hy|rfl
      ·exact h3 y hy (hlt.trans h9)
      ·exact LtK_asymm _ _ h9 h9
     ·refine ⟨⟨g.put, g.drop, [x]⟩, hc _ (by rw [h1, lastF, if_neg hc2]), ⟨hpp, h.drop, by simp, fun _ => .inr ⟨x, rfl, (hx _).2 (.inl h2), fun y hy h9 => ?_⟩, fun h => absurd k h⟩, by simp⟩
      rcases (hx y).1 hy with hy|rfl
      ·exact h3 y hy h9
      ·obtain ⟨p, hp, w, _, _, rfl⟩ := h2
       have a1 := hn.tm p hp
       rw [cmp2_neg] at hc2
       unfold LtK at h9
       simp only [mkE] at hc2 h9
       omega
   ·exact hsame (by simp [cellF, k, u2]) (fun h => absurd k h) (fun _ => u2) (fun h => by omega)
  ·have nb : bK t.kind = 2 := by rw [k];rfl
   have nk : kK t.kind = 2 := by rw [k];rfl
   by_cases u2 : u.1 = 2
   ·have hno2 : ¬ HasNm (fgK e.past g.marks) (mkE t e u) := fun ⟨x, hx, hxn⟩ => hno ⟨x, ((hfm _ _).1 hx).1, hxn⟩
    have hfl2 := hfl e.past
    have hadd2 : addF (fgK e.past g.marks) (mkE t e u) = (0, insK (fgK e.past g.marks) (mkE t e u)) := by rw [addF, if_neg hno2, if_neg (by omega)]
    obtain ⟨j1, j2⟩ := ins_lt (l := fgK e.past g.marks) (h.srt.filter _) hno2
    refine ⟨⟨g.put, g.drop, insK (fgK e.past g.marks) (mkE t e u)⟩, ?_, ⟨?_, h.drop, j1, fun k4 => by omega, fun _ x => ?_⟩, by simp only [hil];omega⟩
    ·simp only [cellF, k, u2]
     rw [← k, ← hmk, hadd2];simp [k]
    ·rw [hpt, h.put];exact ⟨.inl, fun h => h.elim id fun h => by omega⟩
    ·rw [hlv]
     show x ∈ insK (fgK e.past g.marks) (mkE t e u) ↔ _
     rw [show x ∈ insK (fgK e.past g.marks) (mkE t e u) ↔ x ∈ fgK e.past g.marks ∨ x = mkE t e u from j2 x, hfm, h.liv (by omega)]
     exact ⟨fun h9 => h9.elim (fun h9 => .inl ⟨h9.1, fun _ => h9.2⟩) fun h9 => .inr ⟨by omega, h9⟩, fun h9 => h9.elim (fun h9 => .inl ⟨h9.1, h9.2 (by omega)⟩) fun h9 => .inr h9.2⟩
   ·exact hsame (by simp [cellF, k, u2]) (fun _ => ⟨by omega, by omega⟩) (fun h => by omega) (fun h => by omega)
end Go.Proofs.YtmllihbhphnolaaGreat
namespace Go.Proofs.YtmllihbhphnolaaGreat
open Go Go.CF
set_option maxRecDepth 20000
def isSt (k : Int) : Prop := k = 2 ∨ k = 3
def FitU (m : ModS) : Prop := ∀ a ∈ m.acts, ∀ u ∈ a.eff.updates, ∀ (i : Nat) t, u.2.1 = i → (mrgF m)[i]? = some t → (isSt t.kind ↔ u.1 = 0 ∨ u.1 = 1) ∧ (¬ isSt t.kind → t.lo ≤ u.2.2 ∧ u.2.2 ≤ t.hi)
structure KnL (m : ModS) (P : List EvS) (l : List MgS) : Prop where
 len : l.length = (mrgF m).length
 kn : ∀ (i : Nat) t g, (mrgF m)[i]? = some t → l[i]? = some g → Kn m t i P g ∧ g.marks.length ≤ P.length
theorem kd_of {m : ModS} (hm : LayOK m.sorts m.tables) {i : Nat} {t : TblS} (ht : (mrgF m)[i]? = some t) : Kd t := by
 have := kindM hm t (List.mem_of_getElem? ht)
 unfold Kd;omega
theorem updE_mem {m : ModS} {e : EvS} {i : Nat} {u : UpS} (h : updE m e i = some u) : ∃ a ∈ m.acts, u ∈ a.eff.updates ∧ u.2.1 = i := by
 unfold updE at h
 split at h
 ·have h1 := List.mem_of_find?_eq_some h
  have h2 := List.find?_some h
  have h2 : u.2.1 = (i : Int) := by simpa using h2
  rw [List.mem_reverse] at h1
  unfold usF at h1
  cases ha : m.acts[e.action.toNat]? with
  | none => rw [ha] at h1;cases h1
  | some a => rw [ha] at h1;exact ⟨a, List.mem_of_getElem? ha, h1, h2⟩
 ·cases h
theorem Kn.valG {m : ModS} {t : TblS} {i : Nat} {P : List EvS} {g : MgS} (hf : FitU m) (ht : (mrgF m)[i]? = some t) (hk : Kd t) (hu : UniqP P) (hP : ∀ e ∈ P, FormedE e) (h : Kn m t i P g) (hl : g.marks.length ≤ 1024) : ValG t g := by
 refine ⟨⟨fun h9 => ?_, fun h9 => ?_, fun h9 => ?_, hl⟩, fun j x hj hx => ⟨?_, fun q y hq hy hn => ?_, fun y hq hy h9 => ?_⟩⟩
 ·rw [h.drop] at h9;cases h9
 ·have := (h.put.1 h9.1).1
  have := h9.2
  unfold isReg at this;omega
 ·rcases h.four h9.1 with ⟨h1, _⟩|⟨x, h1, _⟩
  ·rw [h1] at h9;simp at h9
  ·rw [h1] at h9;simp at h9
 ·obtain ⟨e, he, u, h1, h2, rfl⟩ := h.mem (List.mem_of_getElem? hx)
  obtain ⟨f1, f2, ⟨y, f3, f4⟩, f5, f6, f7⟩ := hP e he
  have hlen := (List.getElem?_eq_some_iff.1 f3).1
  have := f1.1 y (List.mem_of_getElem? f3)
  have := f1.2
  unfold rngK at *
  unfold Btw at f6
  obtain ⟨a, ha, hua, hui⟩ := updE_mem h1
  have hfit := hf a ha u hua i t hui ht
  refine ⟨by simp only [mkE];omega, by simp only [mkE];omega, by simp only [mkE];omega, ?_⟩
  simp only [mkE, lowT, highT]
  by_cases hr : isReg t.kind
  ·rw [if_pos hr, if_pos hr, if_pos hr]
   exact hfit.2 (by unfold isReg at hr;unfold isSt;omega)
  ·rw [if_neg hr, if_neg hr, if_neg hr];omega
 ·have h1 := h.mem (List.mem_of_getElem? hx)
  have h2 := h.mem (List.mem_of_getElem? hy)
  have := asg_nm hu h2 h1 hn
  subst this
  obtain ⟨j1, rfl⟩ := List.getElem?_eq_some_iff.1 hx
  obtain ⟨q1, hq2⟩ := List.getElem?_eq_some_iff.1 hy
  have := List.pairwise_iff_getElem.1 h.srt q j q1 j1 hq
  rw [hq2] at this
  exact LtK_asymm _ _ this this
 ·obtain ⟨j1, rfl⟩ := List.getElem?_eq_some_iff.1 hx
  obtain ⟨q1, rfl⟩ := List.getElem?_eq_some_iff.1 hy
  exact LtK_asymm _ _ h9 (List.pairwise_iff_getElem.1 h.srt (j - 1) j q1 j1 (by omega))
theorem KnL.valL {m : ModS} {P : List EvS} {l : List MgS} (hm : LayOK m.sorts m.tables) (hf : FitU m) (hu : UniqP P) (hP : ∀ e ∈ P, FormedE e) (hl : P.length ≤ 1024) (h : KnL m P l) : ValL (mrgF m) l :=
 ⟨h.len.symm, fun i t g ht hg => (h.kn i t g ht hg).1.valG hf ht (kd_of hm ht) hu hP (by have := (h.kn i t g ht hg).2;omega)⟩
theorem KnL.nil (m : ModS) : KnL m [] (List.replicate (mrgF m).length mg0) := by
 refine ⟨by simp, fun i t g _ hg => ?_⟩
 have : g = mg0 := (List.mem_replicate.1 (List.mem_of_getElem? hg)).2
 subst this
 exact ⟨⟨by simp [mg0, PutP], rfl, .nil, fun _ => .inl ⟨rfl, fun x ⟨e, he, _⟩ => by cases he⟩, fun _ x => by simp [mg0, Liv]⟩, by simp [mg0]⟩
theorem apply_step {m : ModS} {P : List EvS} {l : List MgS} {e : EvS} (hm : LayOK m.sorts m.tables) (hv : ValL (mrgF m) l) (hl : P.length < 1024) (h : KnL m P l) (he : EvV m (e.past.length : Nat) e) (hn : Nxt P e) :
  ∃ l', applyF m l e = (0, l') ∧ KnL m (P ++ [e]) l' ∧ ∀ (i : Nat) t g, (mrgF m)[i]? = some t → l[i]? = some g → l'[i]? = some (cellF e t (updE m e i) g).2 := by
 have hstep : ∀ (i : Nat) t g, (mrgF m)[i]? = some t → l[i]? = some g → ∃ g', cellF e t (updE m e i) g = (0, g') ∧ Kn m t i (P ++ [e]) g' ∧ g'.marks.length ≤ g.marks.length + 1 := fun i t g ht hg =>
  cell_step (kd_of hm ht) (h.kn i t g ht hg).1 (by have := (h.kn i t g ht hg).2;omega) hn
 by_cases hk : e.kind = 0
 ·have hup : ∀ i : Nat, updE m e i = updF (usF m e) i := fun i => if_pos hk
  have hat : ∀ (i : Nat) t g, (mrgF m)[i]? = some t → l[i]? = some g → (cellsF (mrgF m) l (usF m e) e)[i]? = some (cellF e t (updE m e i) g) := fun i t g ht hg => by rw [hup];exact cellsF_at ht hg
  have hall : ∀ p ∈ cellsF (mrgF m) l (usF m e) e, p.1 = 0 := fun p hp => by
   obtain ⟨i, hi⟩ := List.getElem?_of_mem hp
   have hil := (List.getElem?_eq_some_iff.1 hi).1
   rw [cellsF_len] at hil
   obtain ⟨g, hg⟩ := get_of hil
   obtain ⟨t, ht⟩ := get_of (l := mrgF m) (i := i) (by rw [← h.len];exact hil)
   obtain ⟨g', h1, _⟩ := hstep i t g ht hg
   rw [hat i t g ht hg, h1] at hi
   cases hi;rfl
  refine ⟨(cellsF (mrgF m) l (usF m e) e).map (·.2), ?_, ⟨by rw [List.length_map, cellsF_len, h.len], fun i t g' ht hg' => ?_⟩, fun i t g ht hg => by rw [List.getElem?_map, hat i t g ht hg];rfl⟩
  ·rw [applyF, if_neg (fun h9 => h9 ⟨hv, he⟩), if_neg (fun h9 => h9 hk), gather_end (fun p hp => .inl (hall p hp)), if_neg]
   rintro ⟨p, hp, h8⟩
   rw [hall p hp] at h8;cases h8
  ·obtain ⟨g, hg⟩ := get_of (l := l) (i := i) (by rw [h.len];exact (List.getElem?_eq_some_iff.1 ht).1)
   obtain ⟨g2, h1, h2, h3⟩ := hstep i t g ht hg
   rw [List.getElem?_map, hat i t g ht hg, h1] at hg'
   cases hg'
   have := (h.kn i t g ht hg).2
   exact ⟨h2, by simp;omega⟩
 ·have hup : ∀ i : Nat, updE m e i = none := fun i => if_neg hk
  refine ⟨l, by rw [applyF, if_neg (fun h9 => h9 ⟨hv, he⟩), if_pos hk], ⟨h.len, fun i t g ht hg => ?_⟩, fun i t g ht hg => by rw [hup];exact hg⟩
  obtain ⟨g2, h1, h2, h3⟩ := hstep i t g ht hg
  rw [hup] at h1
  have e1 : g = g2 := congrArg Prod.snd h1
  subst e1
  have := (h.kn i t g ht hg).2
  exact ⟨h2, by simp;omega⟩
/-! ### Closed lists -/
theorem uniqP_of {l : List EvS} (h : Uniq l) : UniqP l := fun a ha b hb h1 h2 => h.eq ha hb (by rw [nm, nm, h1, h2])
theorem has_self {e : EvS} (h : FormedE e) : ¬ HasC e.past e.rep e.num := by
 obtain ⟨_, _, ⟨x, h1, h2⟩, _⟩ := h
 rintro ⟨_, _, _, y, h3, h4⟩
 rw [h1] at h3;cases h3;omega
theorem closed_past {l : List EvS} (h : ClosedE l) {e d : EvS} (hd : d ∈ l) (he : e ∈ l) (hh : HasC d.past e.rep e.num) : e.time < d.time ∧ Cont e.past d.past := by
 obtain ⟨h1, h2, h3, x, h4, h5⟩ := hh
 obtain ⟨y, hy, g1, g2, g3, g4⟩ := h.2.2.2 d hd e.rep.toNat x h4 e.num h3 h5
 have : y = e := uniqP_of h.2.1 y hy e he (by omega) g2
 subst this
 exact ⟨g4, g3⟩
theorem has_of_lt {l : List EvS} (h : ClosedE l) {e d : EvS} (hd : d ∈ l) (he : e ∈ l) (hr : e.rep = d.rep) (hn : e.num < d.num) : HasC d.past e.rep e.num := by
 obtain ⟨f1, f2, ⟨x, f3, f4⟩, _⟩ := (h.2.2.1 d hd).1
 obtain ⟨g1, g2, ⟨y, g3, g4⟩, _⟩ := (h.2.2.1 e he).1
 have := g1.1 y (List.mem_of_getElem? g3)
 unfold rngK at this
 exact ⟨f1, by omega, by omega, x, by rw [hr];exact f3, by omega⟩
end Go.Proofs.YtmllihbhphnolaaGreat
namespace Go.Proofs.YtmllihbhphnolaaGreat
open Go Go.CF
set_option maxRecDepth 20000
theorem zipC_at {op : Int → Int → Int} {a b : List Int} (h : a.length = b.length) {i : Nat} {z : Int} : (zipC op a b)[i]? = some z ↔ ∃ x y, a[i]? = some x ∧ b[i]? = some y ∧ z = op x y := by
 unfold zipC
 rw [List.getElem?_zipWith]
 constructor
 ·intro h9
  cases ha : a[i]? with
  | none => rw [ha] at h9;simp at h9
  | some x =>
   cases hb : b[i]? with
   | none => rw [ha, hb] at h9;simp at h9
   | some y => rw [ha, hb] at h9;simp at h9;exact ⟨x, y, rfl, rfl, h9.symm⟩
 ·rintro ⟨x, y, ha, hb, rfl⟩
  rw [ha, hb]
theorem zipC_val {op : Int → Int → Int} {a b : List Int} (ha : ValC a) (hb : ValC b) (h : a.length = b.length) (hop : ∀ x y, rngK x → rngK y → rngK (op x y)) : ValC (zipC op a b) := by
 refine ⟨fun z hz => ?_, ?_⟩
 ·obtain ⟨i, hi⟩ := List.getElem?_of_mem hz
  obtain ⟨x, y, h1, h2, rfl⟩ := (zipC_at h).1 hi
  exact hop x y (ha.1 x (List.mem_of_getElem? h1)) (hb.1 y (List.mem_of_getElem? h2))
 ·rw [zipC_len h];exact ha.2
theorem rng_max (x y : Int) (hx : rngK x) (hy : rngK y) : rngK (max x y) := by unfold rngK at *;omega
theorem rng_min (x y : Int) (hx : rngK x) (hy : rngK y) : rngK (min x y) := by unfold rngK at *;omega
theorem joinC_val {a b : List Int} (ha : ValC a) (hb : ValC b) (h : a.length = b.length) : ValC (joinC a b) := zipC_val ha hb h rng_max
theorem joinC_len {a b : List Int} (h : a.length = b.length) : (joinC a b).length = a.length := zipC_len h
theorem has_join {a b : List Int} (ha : ValC a) (hb : ValC b) (h : a.length = b.length) (r n : Int) : HasC (joinC a b) r n ↔ HasC a r n ∨ HasC b r n := by
 constructor
 ·rintro ⟨_, h2, h3, z, h4, h5⟩
  obtain ⟨x, y, hx, hy, rfl⟩ := (zipC_at h).1 h4
  by_cases hn : n ≤ x
  ·exact .inl ⟨ha, h2, h3, x, hx, hn⟩
  ·exact .inr ⟨hb, h2, h3, y, hy, by omega⟩
 ·rintro (⟨_, h2, h3, x, hx, h5⟩|⟨_, h2, h3, y, hy, h5⟩)
  ·obtain ⟨y, hy⟩ := get_of (l := b) (i := r.toNat) (by rw [← h];exact (List.getElem?_eq_some_iff.1 hx).1)
   exact ⟨joinC_val ha hb h, h2, h3, _, (zipC_at h).2 ⟨x, y, hx, hy, rfl⟩, by omega⟩
  ·obtain ⟨x, hx⟩ := get_of (l := a) (i := r.toNat) (by rw [h];exact (List.getElem?_eq_some_iff.1 hy).1)
   exact ⟨joinC_val ha hb h, h2, h3, _, (zipC_at h).2 ⟨x, y, hx, hy, rfl⟩, by omega⟩
theorem clkE_val {n : Nat} (hn : 1 ≤ n ∧ n ≤ 5) {l : List EvS} (hl : ∀ e ∈ l, rngK e.num) : ValC (clkE n l) := by
 have key : ∀ (l : List EvS) (c : List Int), (∀ e ∈ l, rngK e.num) → (∀ x ∈ c, rngK x) → ∀ x ∈ l.foldl (fun c e => c.set e.rep.toNat (max (c[e.rep.toNat]?.getD 0) e.num)) c, rngK x := by
  intro l
  induction l with
  | nil => exact fun c _ h => h
  | cons e l ih =>
   intro c h1 h2
   rw [List.foldl_cons]
   refine ih _ (fun d hd => h1 d (List.mem_cons_of_mem _ hd)) fun x hx => ?_
   rcases List.mem_or_eq_of_mem_set hx with h|rfl
   ·exact h2 x h
   ·have h3 := h1 e (by simp)
    have h4 : rngK (c[e.rep.toNat]?.getD 0) := by
     cases hc : c[e.rep.toNat]? with
     | none => simp [rngK]
     | some y => exact h2 y (List.mem_of_getElem? hc)
    exact rng_max _ _ h4 h3
 refine ⟨key l _ hl fun x hx => ?_, by rw [clkE_len];omega⟩
 rw [(List.mem_replicate.1 hx).2];simp [rngK]
theorem formed_num {e : EvS} (h : FormedE e) : rngK e.num := by
 obtain ⟨f1, _, ⟨x, f3, f4⟩, f5, _⟩ := h
 have := f1.1 x (List.mem_of_getElem? f3)
 unfold rngK at *;omega
noncomputable def part1 (l : List EvS) (c : List Int) : List Int := zipC min c (clkE c.length l)
noncomputable def partC (l : List EvS) (c : List Int) : List Int := (cutL l (part1 l c)).foldl (fun k x => joinC k x.past) (part1 l c)
theorem mem_cut {l : List EvS} {c : List Int} {e : EvS} : e ∈ cutL l c ↔ e ∈ l ∧ HasC c e.rep e.num := by simp [cutL, List.mem_filter]
theorem fold_has {n : Nat} : ∀ (xs : List EvS) (c : List Int), (∀ x ∈ xs, ValC x.past ∧ x.past.length = n) → ValC c → c.length = n →
  ValC (xs.foldl (fun k x => joinC k x.past) c) ∧ (xs.foldl (fun k x => joinC k x.past) c).length = n ∧ ∀ r m, HasC (xs.foldl (fun k x => joinC k x.past) c) r m ↔ HasC c r m ∨ ∃ x ∈ xs, HasC x.past r m := by
 intro xs
 induction xs with
 | nil => intro c _ h2 h3;exact ⟨h2, h3, fun r m => by simp⟩
 | cons x xs ih =>
  intro c h1 h2 h3
  obtain ⟨v1, v2⟩ := h1 x (by simp)
  rw [List.foldl_cons]
  obtain ⟨a1, a2, a3⟩ := ih (joinC c x.past) (fun y hy => h1 y (List.mem_cons_of_mem _ hy)) (joinC_val h2 v1 (by omega)) (by rw [joinC_len (by omega)];omega)
  refine ⟨a1, a2, fun r m => ?_⟩
  rw [a3, has_join h2 v1 (by omega)]
  constructor
  ·rintro ((h|h)|⟨y, hy, h⟩)
   ·exact .inl h
   ·exact .inr ⟨x, by simp, h⟩
   ·exact .inr ⟨y, List.mem_cons_of_mem _ hy, h⟩
  ·rintro (h|⟨y, hy, h⟩)
   ·exact .inl (.inl h)
   ·rcases List.mem_cons.1 hy with rfl|hy
    ·exact .inl (.inr h)
    ·exact .inr ⟨y, hy, h⟩
theorem has_ins {a b : List Int} (hb : ValC b) (h : Ins a b) (hl : a.length ≤ b.length) {r n : Int} (hh : HasC a r n) : HasC b r n := by
 obtain ⟨_, h2, h3, x, hx, h5⟩ := hh
 obtain ⟨y, hy⟩ := get_of (l := b) (i := r.toNat) (by have := (List.getElem?_eq_some_iff.1 hx).1;omega)
 exact ⟨hb, h2, h3, y, hy, by have := h _ x y hx hy;omega⟩
structure Part (l : List EvS) (k : List Int) : Prop where
 val : ValC k
 len : k.length = n0 l
 cls : ∀ e ∈ cutL l k, ∀ d ∈ l, HasC e.past d.rep d.num → d ∈ cutL l k
 sub : ∀ e ∈ cutL l k, Ins e.past k
theorem cont_ins {a b : List Int} (h : Cont a b) : Ins a b ∧ a.length = b.length ∧ ValC b := ⟨h.2, ((alike2 a b).1 h.1).2.2, ((alike2 a b).1 h.1).2.1⟩
theorem part1_ok {l : List EvS} {c : List Int} (hc : ClosedE l) (hv : ValC c) (hl : c.length = n0 l) : ValC (part1 l c) ∧ (part1 l c).length = n0 l := by
 have h1 : ValC (clkE c.length l) := clkE_val hv.2 fun e he => formed_num (hc.2.2.1 e he).1
 exact ⟨zipC_val hv h1 (by rw [clkE_len]) rng_min, by rw [part1, zipC_len (by rw [clkE_len]), hl]⟩
theorem fold_ins {n : Nat} : ∀ (xs : List EvS) (c : List Int), (∀ x ∈ xs, x.past.length = n) → c.length = n → Ins c (xs.foldl (fun k x => joinC k x.past) c) ∧ ∀ x ∈ xs, Ins x.past (xs.foldl (fun k x => joinC k x.past) c) := by
 intro xs
 induction xs with
 | nil => intro c _ _;exact ⟨fun i x y h1 h2 => by rw [List.foldl_nil, h1] at h2;cases h2;omega, fun x hx => by cases hx⟩
 | cons x xs ih =>
  intro c h1 h2
  rw [List.foldl_cons]
  have hx := h1 x (by simp)
  have hjl : (joinC c x.past).length = n := by rw [joinC_len (by omega)];exact h2
  obtain ⟨a1, a2⟩ := ih (joinC c x.past) (fun y hy => h1 y (List.mem_cons_of_mem _ hy)) hjl
  have step : ∀ a : List Int, a.length = n → Ins a (joinC c x.past) → Ins a (xs.foldl (fun k x => joinC k x.past) (joinC c x.past)) := fun a hal ha i u w hu hw => by
   obtain ⟨z, hz⟩ := get_of (l := joinC c x.past) (i := i) (by rw [hjl, ← hal];exact (List.getElem?_eq_some_iff.1 hu).1)
   have := ha i u z hu hz
   have := a1 i z w hz hw
   omega
  refine ⟨step c h2 fun i u w hu hw => ?_, fun y hy => ?_⟩
  ·obtain ⟨p, q, hp, _, rfl⟩ := (zipC_at (by omega)).1 hw
   rw [hp] at hu;cases hu;omega
  ·rcases List.mem_cons.1 hy with rfl|hy
   ·refine step _ hx fun i u w hu hw => ?_
    obtain ⟨p, q, _, hq, rfl⟩ := (zipC_at (by omega)).1 hw
    rw [hq] at hu;cases hu;omega
   ·exact a2 y hy
theorem part_ok {l : List EvS} {c : List Int} (hc : ClosedE l) (hv : ValC c) (hl : c.length = n0 l) : Part l (partC l c) := by
 obtain ⟨p1, p2⟩ := part1_ok hc hv hl
 have hxs : ∀ x ∈ cutL l (part1 l c), ValC x.past ∧ x.past.length = n0 l := fun x hx => by
  have := hc.2.2.1 x (mem_cut.1 hx).1
  exact ⟨this.1.1, this.2⟩
 obtain ⟨a1, a2, a3⟩ := fold_has (cutL l (part1 l c)) (part1 l c) hxs p1 p2
 obtain ⟨b1, b2⟩ := fold_ins (n := n0 l) (cutL l (part1 l c)) (part1 l c) (fun x hx => (hxs x hx).2) p2
 have hsub : ∀ e ∈ cutL l (partC l c), Ins e.past (partC l c) := fun e he => by
  obtain ⟨h1, h2⟩ := mem_cut.1 he
  rcases (a3 _ _).1 h2 with h|⟨x, hx, h⟩
  ·exact b2 e (mem_cut.2 ⟨h1, h⟩)
  ·obtain ⟨g1, g2, _⟩ := cont_ins (closed_past hc (mem_cut.1 hx).1 h1 h).2
   intro i u w hu hw
   obtain ⟨z, hz⟩ := get_of (l := x.past) (i := i) (by rw [← g2];exact (List.getElem?_eq_some_iff.1 hu).1)
   have := g1 i u z hu hz
   have := b2 x hx i z w hz hw
   omega
 refine ⟨a1, a2, fun e he d hd hh => ?_, hsub⟩
 refine mem_cut.2 ⟨hd, has_ins a1 (hsub e he) ?_ hh⟩
 have h9 : e.past.length = n0 l := (hc.2.2.1 e (mem_cut.1 he).1).2
 have h10 : (partC l c).length = n0 l := a2
 omega
end Go.Proofs.YtmllihbhphnolaaGreat
namespace Go.Proofs.YtmllihbhphnolaaGreat
open Go Go.CF
set_option maxRecDepth 20000
theorem join_z2 {a b : List Int} (ha : ValC a) (hb : ValC b) (hl : a.length = b.length) : CallP Tryz.prog 50 [clks [a, b]] (ints (joinC a b)) := join_z ((alike2 a b).2 ⟨ha, hb, hl⟩)
theorem meet_z2 {a b : List Int} (ha : ValC a) (hb : ValC b) (hl : a.length = b.length) : CallP Tryz.prog 72 [clks [a, b]] (ints (zipC min a b)) :=
 CallA.fz (by have := ha.2;simp [zipC];omega) (meet_o [a, b] ((alike2 a b).2 ⟨ha, hb, hl⟩))
theorem cut_z (l : List EvS) (c : List Int) (hl : l.length ≤ 1000) : CallP Tryz.prog 73 [evs l, ints c] (evs (cutL l c)) :=
 CallA.fz (by have : (cutL l c).length ≤ l.length := List.length_filter_le _ _;omega) (cut_o l c hl)
theorem clock_z {n : Nat} {l : List EvS} (hn : 1 ≤ n ∧ n ≤ 5) (hc : ClosedE l) (hl : ∀ e ∈ l, e.past.length = n) : CallP Tryz.prog 67 [.val (.int .i64 n), evs l] (.tup [ints (clkE n l), .val (.int .i64 0)]) :=
 CallA.fzt (by rw [clkE_len];omega) (clock_ok n l hn hc hl)
def FitO (t : TblS) (u : UpS) : Prop := (isSt t.kind ↔ u.1 = 0 ∨ u.1 = 1) ∧ (¬ isSt t.kind → t.lo ≤ u.2.2 ∧ u.2.2 ≤ t.hi)
def SuitE (m : ModS) (l : List EvS) : Prop := MOK m ∧ FewV l ∧ ClosedE l ∧ FitU m ∧ ∀ e ∈ l, EvV m (n0 l : Nat) e
end Go.Proofs.YtmllihbhphnolaaGreat
namespace Go.Proofs.YtmllihbhphnolaaGreat
open Go Go.CF
set_option maxRecDepth 20000
theorem ordE_mem {l : List EvS} {e : EvS} : e ∈ ordE l ↔ e ∈ l := (ordE_perm l).mem_iff.symm
theorem ordE_len (l : List EvS) : (ordE l).length = l.length := (ordE_perm l).length_eq.symm
theorem uniqP_sub {l X : List EvS} (h : UniqP l) (hX : ∀ e ∈ X, e ∈ l) : UniqP X := fun a ha b hb => h a (hX a ha) b (hX b hb)
theorem uniq_sub {l : List EvS} (h : Uniq l) (c : List Int) : Uniq (cutL l c) := by
 have h1 : l.Pairwise fun a b => nm a ≠ nm b := by
  rw [List.pairwise_iff_getElem]
  intro i j hi hj hij h9
  have := h i j _ _ (List.getElem?_eq_getElem hi) (List.getElem?_eq_getElem hj) h9
  omega
 have h2 : (cutL l c).Pairwise fun a b => nm a ≠ nm b := h1.filter _
 intro i j a b ha hb hn
 obtain ⟨i1, rfl⟩ := List.getElem?_eq_some_iff.1 ha
 obtain ⟨j1, rfl⟩ := List.getElem?_eq_some_iff.1 hb
 rcases Nat.lt_trichotomy i j with h9|h9|h9
 ·exact absurd hn (List.pairwise_iff_getElem.1 h2 i j i1 j1 h9)
 ·exact h9
 ·exact absurd hn.symm (List.pairwise_iff_getElem.1 h2 j i j1 i1 h9)
theorem cut_len (l : List EvS) (c : List Int) : (cutL l c).length ≤ l.length := List.length_filter_le _ _
end Go.Proofs.YtmllihbhphnolaaGreat
namespace Go.Proofs.YtmllihbhphnolaaGreat
open Go Go.CF
set_option maxRecDepth 20000
/-! ### The clock of events -/
theorem clk_key {n : Nat} : ∀ (A : List EvS) (c : List Int), c.length = n → (∀ x ∈ c, 0 ≤ x) → (∀ a ∈ A, a.rep.toNat < n ∧ 0 ≤ a.num) → ∀ q, q < n →
  ∃ y, (A.foldl (fun c e => c.set e.rep.toNat (max (c[e.rep.toNat]?.getD 0) e.num)) c)[q]? = some y ∧ 0 ≤ y ∧ ∀ k, 1 ≤ k → (k ≤ y ↔ (∃ z, c[q]? = some z ∧ k ≤ z) ∨ ∃ a ∈ A, a.rep.toNat = q ∧ k ≤ a.num) := by
 intro A
 induction A with
 | nil =>
  intro c hc h0 _ q hq
  obtain ⟨z, hz⟩ := get_of (l := c) (i := q) (by omega)
  exact ⟨z, hz, h0 z (List.mem_of_getElem? hz), fun k _ => by simp [hz]⟩
 | cons a A ih =>
  intro c hc h0 hA q hq
  obtain ⟨h1, h2⟩ := hA a (by simp)
  obtain ⟨u, hu⟩ := get_of (l := c) (i := a.rep.toNat) (by omega)
  have hu0 := h0 u (List.mem_of_getElem? hu)
  rw [List.foldl_cons]
  obtain ⟨y, e1, e2, e3⟩ := ih (c.set a.rep.toNat (max (c[a.rep.toNat]?.getD 0) a.num)) (by rw [List.length_set];exact hc) (fun x hx => by
   rcases List.mem_or_eq_of_mem_set hx with h|h
   ·exact h0 x h
   ·rw [h, hu, Option.getD_some];omega) (fun b hb => hA b (List.mem_cons_of_mem _ hb)) q hq
  refine ⟨y, e1, e2, fun k hk => (e3 k hk).trans ?_⟩
  rw [List.getElem?_set]
  by_cases hqa : a.rep.toNat = q
  ·subst hqa
   rw [if_pos rfl, if_pos (by omega), hu, Option.getD_some]
   constructor
   ·rintro (⟨z, hz, hkz⟩|⟨b, hb, hb1, hb2⟩)
    ·cases hz
     by_cases hku : k ≤ u
     ·exact .inl ⟨u, rfl, hku⟩
     ·exact .inr ⟨a, by simp, rfl, by omega⟩
    ·exact .inr ⟨b, List.mem_cons_of_mem _ hb, hb1, hb2⟩
   ·rintro (⟨z, hz, hkz⟩|⟨b, hb, hb1, hb2⟩)
    ·cases hz;exact .inl ⟨_, rfl, by omega⟩
    ·rcases List.mem_cons.1 hb with rfl|hb
     ·exact .inl ⟨_, rfl, by omega⟩
     ·exact .inr ⟨b, hb, hb1, hb2⟩
  ·rw [if_neg hqa]
   constructor
   ·rintro (h|⟨b, hb, hb1, hb2⟩)
    ·exact .inl h
    ·exact .inr ⟨b, List.mem_cons_of_mem _ hb, hb1, hb2⟩
   ·rintro (h|⟨b, hb, hb1, hb2⟩)
    ·exact .inl h
    ·rcases List.mem_cons.1 hb with rfl|hb
     ·exact absurd hb1 hqa
     ·exact .inr ⟨b, hb, hb1, hb2⟩
structure Cau (l A : List EvS) : Prop where
 sub : ∀ a ∈ A, a ∈ l
 cls : ∀ a ∈ A, ∀ d ∈ l, HasC a.past d.rep d.num → d ∈ A
theorem formed_rep {e : EvS} (h : FormedE e) : 0 ≤ e.rep ∧ e.rep.toNat < e.past.length ∧ 1 ≤ e.num := by
 obtain ⟨f1, f2, ⟨x, f3, f4⟩, _⟩ := h
 have := f1.1 x (List.mem_of_getElem? f3)
 unfold rngK at this
 exact ⟨f2, (List.getElem?_eq_some_iff.1 f3).1, by omega⟩
theorem n0_rng {l : List EvS} (hc : ClosedE l) {e : EvS} (he : e ∈ l) : 1 ≤ n0 l ∧ n0 l ≤ 5 := by
 have h := hc.2.2.1 e he
 rw [← h.2];exact h.1.1.2
theorem clkE_at {l A : List EvS} (hc : ClosedE l) (hA : ∀ a ∈ A, a ∈ l) {q : Nat} (hq : q < n0 l) : ∃ y, (clkE (n0 l) A)[q]? = some y ∧ 0 ≤ y ∧ ∀ k, 1 ≤ k → (k ≤ y ↔ ∃ a ∈ A, a.rep.toNat = q ∧ k ≤ a.num) := by
 obtain ⟨y, h1, h2, h3⟩ := clk_key (n := n0 l) A (List.replicate (n0 l) 0) (by simp) (fun x hx => by rw [(List.mem_replicate.1 hx).2];exact Int.le_refl 0) (fun a ha => by
  have hf := hc.2.2.1 a (hA a ha)
  have := formed_rep hf.1
  rw [hf.2] at this
  exact ⟨this.2.1, by omega⟩) q hq
 refine ⟨y, h1, h2, fun k hk => (h3 k hk).trans ⟨fun h => h.elim (fun ⟨z, hz, hkz⟩ => ?_) id, .inr⟩⟩
 rw [List.getElem?_replicate, if_pos hq] at hz
 cases hz;omega
theorem clk_valC {l A : List EvS} (hc : ClosedE l) (hA : ∀ a ∈ A, a ∈ l) (hn : 1 ≤ n0 l ∧ n0 l ≤ 5) : ValC (clkE (n0 l) A) := clkE_val hn fun e he => formed_num (hc.2.2.1 e (hA e he)).1
theorem clk_has {l A : List EvS} (hc : ClosedE l) (hA : Cau l A) {e : EvS} (he : e ∈ l) : HasC (clkE (n0 l) A) e.rep e.num ↔ e ∈ A := by
 have hf := hc.2.2.1 e he
 have hr := formed_rep hf.1
 rw [hf.2] at hr
 obtain ⟨y, h1, h2, h3⟩ := clkE_at hc hA.sub hr.2.1
 constructor
 ·rintro ⟨_, _, _, x, hx, hnx⟩
  rw [h1] at hx;cases hx
  obtain ⟨a, ha, ha1, ha2⟩ := (h3 e.num hr.2.2).1 hnx
  have hfa := formed_rep (hc.2.2.1 a (hA.sub a ha)).1
  have har : e.rep = a.rep := by omega
  by_cases hlt : e.num < a.num
  ·exact hA.cls a ha e he (has_of_lt hc (hA.sub a ha) he har hlt)
  ·have := uniqP_of hc.2.1 e he a (hA.sub a ha) har (by omega)
   rw [this];exact ha
 ·intro h
  exact ⟨clk_valC hc hA.sub (n0_rng hc he), hr.1, hr.2.2, y, h1, (h3 e.num hr.2.2).2 ⟨e, h, rfl, Int.le_refl _⟩⟩
theorem clk_ins {l A : List EvS} (hc : ClosedE l) (hA : Cau l A) {e : EvS} (he : e ∈ l) (hp : ∀ d ∈ l, HasC e.past d.rep d.num → d ∈ A) : Ins e.past (clkE (n0 l) A) := fun i x y hx hy => by
 have hf := hc.2.2.1 e he
 have hil := (List.getElem?_eq_some_iff.1 hx).1
 obtain ⟨z, h1, h2, h3⟩ := clkE_at hc hA.sub (q := i) (by rw [← hf.2];exact hil)
 rw [hy] at h1;cases h1
 by_cases hx1 : 1 ≤ x
 ·obtain ⟨d, hd, g1, g2, _, _⟩ := hc.2.2.2 e he i x hx x hx1 (Int.le_refl _)
  have hdA := hp d hd ⟨hf.1.1, by omega, by omega, x, by rw [g1];simpa using hx, by omega⟩
  exact (h3 x hx1).2 ⟨d, hdA, by omega, by omega⟩
 ·omega
/-! ### States -/
theorem add1_len (s : List Int) (p : Int × Int) : (add1 s p).length = s.length := by simp [add1]
theorem addD_len (d : List (Int × Int)) : ∀ s : List Int, (addD s d).length = s.length := by
 induction d with
 | nil => intro s;rfl
 | cons p d ih => intro s;rw [addD, List.foldl_cons];exact (ih _).trans (add1_len s p)
theorem addE_len (m : ModS) (s : List Int) (e : EvS) : (addE m s e).length = s.length := by
 unfold addE;split
 ·exact addD_len _ s
 ·rfl
theorem wrap_id {x : Int} (h : -9223372036854775808 ≤ x ∧ x ≤ 9223372036854775807) : IntKind.i64.wrap x = x := by rw [IntKind.wrap_i64];omega
theorem addD_bnd (d : List (Int × Int)) : ∀ (s : List Int) (B : Int), 0 ≤ B → B + 1000 * d.length ≤ 1000000000 → (∀ x ∈ s, -B ≤ x ∧ x ≤ B) → (∀ p ∈ d, -1000 ≤ p.2 ∧ p.2 ≤ 1000) → ∀ x ∈ addD s d, -(B + 1000 * d.length) ≤ x ∧ x ≤ B + 1000 * d.length := by
 induction d with
 | nil => intro s B _ _ h _ x hx;have := h x hx;simp only [List.length_nil];omega
 | cons p d ih =>
  intro s B hB hb h hd x hx
  simp only [List.length_cons] at hb ⊢
  have hp := hd p (by simp)
  have h1 : ∀ x ∈ add1 s p, -(B + 1000) ≤ x ∧ x ≤ B + 1000 := fun x hx => by
   rcases List.mem_or_eq_of_mem_set hx with h9|h9
   ·have := h x h9;omega
   ·have h0 : -B ≤ s[p.1.toNat]?.getD 0 ∧ s[p.1.toNat]?.getD 0 ≤ B := by
     cases hs : s[p.1.toNat]? with
     | none => simp only [Option.getD_none];omega
     | some z => exact h z (List.mem_of_getElem? hs)
    rw [h9, wrap_id (by omega)]
    omega
  have := ih (add1 s p) (B + 1000) (by omega) (by omega) h1 (fun q hq => hd q (List.mem_cons_of_mem _ hq)) x hx
  omega
def SmD (m : ModS) : Prop := ∀ a ∈ m.acts, a.eff.delta.length ≤ 20 ∧ ∀ p ∈ a.eff.delta, -1000 ≤ p.2 ∧ p.2 ≤ 1000
theorem dlt_sm {m : ModS} (h : SmD m) (e : EvS) : (dltF m e).length ≤ 20 ∧ ∀ p ∈ dltF m e, -1000 ≤ p.2 ∧ p.2 ≤ 1000 := by
 unfold dltF
 cases ha : m.acts[e.action.toNat]? with
 | none => simp
 | some a => exact h a (List.mem_of_getElem? ha)
theorem addE_bnd {m : ModS} (h : SmD m) (e : EvS) {s : List Int} {k : Nat} (hk : k ≤ 1000) (hs : ∀ x ∈ s, -(1000 + 20000 * (k : Int)) ≤ x ∧ x ≤ 1000 + 20000 * (k : Int)) : ∀ x ∈ addE m s e, -(1000 + 20000 * ((k + 1 : Nat) : Int)) ≤ x ∧ x ≤ 1000 + 20000 * ((k + 1 : Nat) : Int) := by
 intro x hx
 unfold addE at hx
 split at hx
 ·obtain ⟨d1, d2⟩ := dlt_sm h e
  have := addD_bnd (dltF m e) s (1000 + 20000 * (k : Int)) (by omega) (by omega) hs d2 x hx
  omega
 ·have := hs x hx;omega
structure StoA (m : ModS) (l : List EvS) (ld : List Int) (A : List EvS) (w : NowS) : Prop where
 clock : w.clock = clkE (n0 l) A
 time : w.time = A.foldl (fun t e => max t e.time) 0
 state : w.state = A.foldl (addE m) ld
 merged : KnL m A w.merged
 places : w.places = A.foldl plE []
theorem sto_bnd {m : ModS} (h : SmD m) {ld : List Int} (hl : ∀ x ∈ ld, -1000 ≤ x ∧ x ≤ 1000) : ∀ (A : List EvS), A.length ≤ 1000 → ∀ x ∈ A.foldl (addE m) ld, -(1000 + 20000 * (A.length : Int)) ≤ x ∧ x ≤ 1000 + 20000 * (A.length : Int) := by
 have key : ∀ (A : List EvS), A.reverse.length ≤ 1000 → ∀ x ∈ A.reverse.foldl (addE m) ld, -(1000 + 20000 * (A.reverse.length : Int)) ≤ x ∧ x ≤ 1000 + 20000 * (A.reverse.length : Int) := by
  intro A
  induction A with
  | nil => intro _ x hx;have := hl x hx;simp;omega
  | cons e A ih =>
   intro hA x hx
   rw [List.reverse_cons, List.foldl_append] at hx
   rw [List.length_reverse, List.length_cons] at hA
   have h2 := addE_bnd h e (k := A.reverse.length) (by simp;omega) (ih (by simp;omega)) x hx
   simpa using h2
 intro A hA
 have := key A.reverse (by simpa using hA)
 simpa using this
theorem nxt_cau {l A : List EvS} (hc : ClosedE l) (hA : Cau l A) {e : EvS} (he : e ∈ l) (hn : e ∉ A) : Nxt A e := by
 have hu := uniqP_of hc.2.1
 refine ⟨fun p hp ⟨h1, h2⟩ => hn ?_, fun p hp hh => hn (hA.cls p hp e he hh), fun p hp ⟨h1, h2⟩ => ?_, has_self (hc.2.2.1 e he).1⟩
 ·rw [← hu p (hA.sub p hp) e he h1 h2];exact hp
 ·rcases Int.lt_trichotomy p.num e.num with h|h|h
  ·have := (closed_past hc he (hA.sub p hp) (has_of_lt hc he (hA.sub p hp) h2 h)).1
   omega
  ·exact hn (by rw [← hu p (hA.sub p hp) e he h2 h];exact hp)
  ·exact hn (hA.cls p hp e he (has_of_lt hc (hA.sub p hp) he h2.symm h))
theorem deliver_ok {m : ModS} {l A : List EvS} {ld : List Int} {w : NowS} {e : EvS} (hs : SuitE m l) (hl : l.length ≤ 100) (hd : SmD m) (hld : ∀ x ∈ ld, -1000 ≤ x ∧ x ≤ 1000) (hw : StoA m l ld A w) (hAl : A.length ≤ 100) (hA : Cau l A) (he : e ∈ l) (hn : e ∉ A) (hp : ∀ d ∈ l, HasC e.past d.rep d.num → d ∈ A) :
  ∃ w', deliverF m A w e = (0, w') ∧ StoA m l ld (A ++ [e]) w' := by
 obtain ⟨hm, hfw, hc, hf, hv⟩ := hs
 have hnx := nxt_cau hc hA he hn
 have hu : UniqP A := uniqP_sub (uniqP_of hc.2.1) hA.sub
 have hval := hw.merged.valL hm.lay hf hu (fun x hx => (hc.2.2.1 x (hA.sub x hx)).1) (by omega)
 have hpl : e.past.length = n0 l := (hc.2.2.1 e he).2
 have hev : EvV m (e.past.length : Nat) e := by rw [hpl];exact hv e he
 obtain ⟨k', a1, a2, -⟩ := apply_step hm.lay hval (by omega) hw.merged hev hnx
 have hclen : w.clock.length = n0 l := by rw [hw.clock, clkE_len]
 have hb := addE_bnd hd e (k := A.length) (by omega) (sto_bnd hd hld A (by omega))
 have h1 : EvV m (w.clock.length : Nat) e := by rw [hclen];exact hv e he
 have h2 : ¬ HasC w.clock e.rep e.num := by rw [hw.clock];exact fun h => hn ((clk_has hc hA he).1 h)
 have h3 : Ins e.past w.clock := by rw [hw.clock];exact clk_ins hc hA he hp
 have h4 : ¬ LateE A e := fun ⟨x, hx, hh, ht⟩ => by
  have := (closed_past hc he (hA.sub x hx) hh).1
  omega
 have h5 : ¬ (e.kind = 0 ∧ ¬ insS (addE m w.state e)) := fun ⟨_, h⟩ => h fun x hx => by
  rw [hw.state] at hx
  have := hb x hx
  omega
 have h6 : ¬ (applyF m w.merged e).1 ≠ 0 := by rw [a1];exact fun h => h rfl
 refine ⟨⟨cntF w.clock e, max w.time e.time, addE m w.state e, k', plE w.places e⟩, ?_, ⟨?_, ?_, ?_, a2, ?_⟩⟩
 ·rw [deliverF, if_neg (fun h => h h1), if_neg h2, if_neg (fun h => h h3), if_neg h4, if_neg h5, if_neg h6, a1]
 ·simp only [hw.clock, clkE, List.foldl_append, cntF];rfl
 ·simp only [hw.time, List.foldl_append];rfl
 ·simp only [hw.state, List.foldl_append];rfl
 ·simp only [hw.places, List.foldl_append];rfl
end Go.Proofs.YtmllihbhphnolaaGreat
namespace Go.Proofs.YtmllihbhphnolaaGreat
open Go Go.CF
set_option maxRecDepth 20000
structure ExtO (l X : List EvS) : Prop where
 sub : ∀ e ∈ X, e ∈ l
 nxt : ∀ (i : Nat) e, X[i]? = some e → e ∉ X.take i ∧ ∀ d ∈ l, HasC e.past d.rep d.num → d ∈ X.take i
theorem ExtO.nil (l : List EvS) : ExtO l [] := ⟨fun e h => (by cases h), fun i e h => by simp at h⟩
theorem ExtO.snoc {l X : List EvS} {e : EvS} (h : ExtO l X) (he : e ∈ l) (hn : e ∉ X) (hp : ∀ d ∈ l, HasC e.past d.rep d.num → d ∈ X) : ExtO l (X ++ [e]) := by
 refine ⟨fun a ha => (List.mem_append.1 ha).elim (h.sub a) fun ha => by rw [List.mem_singleton.1 ha];exact he, fun i a ha => ?_⟩
 have hi := (List.getElem?_eq_some_iff.1 ha).1
 rw [List.length_append, List.length_singleton] at hi
 by_cases hx : i < X.length
 ·rw [List.getElem?_append_left hx] at ha
  rw [List.take_append_of_le_length (by omega)]
  exact h.nxt i a ha
 ·have : i = X.length := by omega
  subst this
  rw [List.getElem?_append_right (Nat.le_refl _), Nat.sub_self] at ha
  cases ha
  rw [List.take_left]
  exact ⟨hn, hp⟩
theorem ExtO.cau {l X : List EvS} (h : ExtO l X) (i : Nat) : Cau l (X.take i) := by
 refine ⟨fun a ha => h.sub a (List.mem_of_mem_take ha), fun a ha d hd hh => ?_⟩
 obtain ⟨j, hj⟩ := List.getElem?_of_mem ha
 rw [List.getElem?_take] at hj
 split at hj
 ·rename_i hji
  have := (h.nxt j a hj).2 d hd hh
  rw [show X.take j = (X.take i).take j by rw [List.take_take, Nat.min_eq_left (by omega)]] at this
  exact List.mem_of_mem_take this
 ·cases hj
theorem ExtO.all {l X : List EvS} (h : ExtO l X) : Cau l X := by
 have := h.cau X.length
 rwa [List.take_length] at this
theorem sto0 (m : ModS) (l : List EvS) (ld : List Int) : StoA m l ld [] ⟨List.replicate (n0 l) 0, 0, ld, List.replicate (mrgF m).length mg0, []⟩ := ⟨rfl, rfl, rfl, KnL.nil m, rfl⟩
theorem foldl_perm {α β : Type} {f : β → α → β} (hf : ∀ b x y, f (f b x) y = f (f b y) x) {l l' : List α} (h : l.Perm l') : ∀ b, l.foldl f b = l'.foldl f b := by
 induction h with
 | nil => exact fun _ => rfl
 | cons x _ ih => exact fun b => ih (f b x)
 | swap x y l => intro b;simp only [List.foldl_cons];rw [hf]
 | trans _ _ h1 h2 => exact fun b => (h1 b).trans (h2 b)
theorem wrap_add {x p q : Int} : IntKind.i64.wrap (IntKind.i64.wrap (x + p) + q) = IntKind.i64.wrap (IntKind.i64.wrap (x + q) + p) := by
 simp only [IntKind.wrap_i64];omega
theorem add1_comm (s : List Int) (p q : Int × Int) : add1 (add1 s p) q = add1 (add1 s q) p := by
 unfold add1
 by_cases h : p.1.toNat = q.1.toNat
 ·rw [h]
  by_cases hl : q.1.toNat < s.length
  ·simp only [List.getElem?_set_self hl, Option.getD_some, List.set_set, wrap_add]
  ·simp only [List.set_eq_of_length_le (show s.length ≤ q.1.toNat by omega)]
 ·rw [List.getElem?_set_ne h, List.getElem?_set_ne (fun h9 => h h9.symm), List.set_comm _ _ h]
theorem addD_add1 (d : List (Int × Int)) : ∀ (s : List Int) (p : Int × Int), addD (add1 s p) d = add1 (addD s d) p := by
 induction d with
 | nil => exact fun _ _ => rfl
 | cons q d ih =>
  intro s p
  have h1 : addD (add1 s p) (q :: d) = addD (add1 (add1 s p) q) d := rfl
  have h2 : addD s (q :: d) = addD (add1 s q) d := rfl
  rw [h1, h2, add1_comm, ih]
theorem addD_comm (d : List (Int × Int)) : ∀ (s : List Int) (d' : List (Int × Int)), addD (addD s d) d' = addD (addD s d') d := by
 induction d with
 | nil => exact fun _ _ => rfl
 | cons q d ih =>
  intro s d'
  have h1 : ∀ s, addD s (q :: d) = addD (add1 s q) d := fun _ => rfl
  rw [h1, h1, ih, addD_add1]
theorem addE_comm (m : ModS) (s : List Int) (a b : EvS) : addE m (addE m s a) b = addE m (addE m s b) a := by
 unfold addE
 split <;> split <;> first|rfl|exact addD_comm _ _ _
theorem state_perm {m : ModS} {l l' : List EvS} (h : l.Perm l') (ld : List Int) : l.foldl (addE m) ld = l'.foldl (addE m) ld := foldl_perm (addE_comm m) h ld
theorem clkE_perm {n : Nat} {l l' : List EvS} (h : l.Perm l') : clkE n l = clkE n l' := by
 unfold clkE
 refine foldl_perm (fun c x y => ?_) h _
 by_cases hr : x.rep.toNat = y.rep.toNat
 ·rw [hr]
  by_cases hl : y.rep.toNat < c.length
  ·simp only [List.getElem?_set_self hl, Option.getD_some, List.set_set]
   congr 1;omega
  ·simp only [List.set_eq_of_length_le (show c.length ≤ y.rep.toNat by omega)]
 ·rw [List.getElem?_set_ne hr, List.getElem?_set_ne (fun h9 => hr h9.symm), List.set_comm _ _ hr]
/-! ### Places -/
noncomputable def plL (l : List EvS) : List Int := (l.filter fun e => decide (0 < e.place)).map (·.place)
theorem withP_si {l s : List Int} {n : Int} (h : SI l s) : SI (l ++ [n]) (withP s n) := by
 unfold withP
 split
 ·rename_i hn;exact si_keep h hn
 ·rename_i hn
  refine ⟨List.pairwise_append.2 ⟨h.1.filter _, List.pairwise_cons.2 ⟨fun y hy => by simpa using (List.mem_filter.1 hy).2, h.1.filter _⟩, fun a ha b hb => ?_⟩, fun y => ?_⟩
  ·have ha : a < n := by simpa using (List.mem_filter.1 ha).2
   rcases List.mem_cons.1 hb with rfl|hb
   ·exact ha
   ·have hb : n < b := by simpa using (List.mem_filter.1 hb).2
    omega
  ·constructor
   ·intro h9
    rcases List.mem_append.1 h9 with h9|h9
    ·exact List.mem_append.2 (.inl ((h.2 y).1 (List.mem_filter.1 h9).1))
    ·rcases List.mem_cons.1 h9 with rfl|h9
     ·simp
     ·exact List.mem_append.2 (.inl ((h.2 y).1 (List.mem_filter.1 h9).1))
   ·intro h9
    rcases List.mem_append.1 h9 with h9|h9
    ·have hy := (h.2 y).2 h9
     have hne : y ≠ n := fun e => hn (e ▸ hy)
     by_cases hlt : y < n
     ·exact List.mem_append.2 (.inl (List.mem_filter.2 ⟨hy, by simpa using hlt⟩))
     ·exact List.mem_append.2 (.inr (List.mem_cons.2 (.inr (List.mem_filter.2 ⟨hy, by simp only [decide_eq_true_eq];omega⟩))))
    ·rw [List.mem_singleton.1 h9];simp
theorem plE_si {l : List EvS} : ∀ {P : List Int} {s : List Int}, SI P s → SI (P ++ plL l) (l.foldl plE s) := by
 induction l with
 | nil => intro P s h;simpa [plL] using h
 | cons e l ih =>
  intro P s h
  rw [List.foldl_cons]
  by_cases he : 0 < e.place
  ·have h1 := ih (withP_si (n := e.place) h)
   rw [show plE s e = withP s e.place from if_pos he]
   rw [show P ++ plL (e :: l) = P ++ [e.place] ++ plL l by simp [plL, he]]
   exact h1
  ·rw [show plE s e = s from if_neg he]
   rw [show P ++ plL (e :: l) = P ++ plL l by simp [plL, he]]
   exact ih h
theorem places_srt (l : List EvS) : l.foldl plE [] = srtD (plL l) := by
 have h : SI ([] ++ plL l) (l.foldl plE []) := plE_si ⟨List.Pairwise.nil, by simp⟩
 rw [List.nil_append] at h
 exact h.uniq (srtD_si _)
end Go.Proofs.YtmllihbhphnolaaGreat
namespace Go.Proofs.YtmllihbhphnolaaGreat
open Go Go.CF
set_option maxRecDepth 20000
/-! ### What is made -/
/-! ### Closed parts -/
theorem n0_cut {l : List EvS} (hc : ClosedE l) {k : List Int} (h : cutL l k ≠ []) : n0 (cutL l k) = n0 l := by
 obtain ⟨e, he⟩ : ∃ e, (cutL l k)[0]? = some e := get_of (by
  rcases Nat.eq_zero_or_pos (cutL l k).length with h0|h0
  ·exact absurd (List.eq_nil_of_length_eq_zero h0) h
  ·exact h0)
 have h1 := (hc.2.2.1 e (mem_cut.1 (List.mem_of_getElem? he)).1).2
 rw [n0, he]
 exact h1
theorem part_closed {l : List EvS} (hc : ClosedE l) {k : List Int} (hk : Part l k) (h : cutL l k ≠ []) : ClosedE (cutL l k) := by
 have hn := n0_cut hc h
 refine ⟨Nat.le_trans (cut_len l k) hc.1, uniq_sub hc.2.1 k, fun e he => by rw [hn];exact hc.2.2.1 e (mem_cut.1 he).1, fun e he r n hr i h1 h2 => ?_⟩
 have hel := (mem_cut.1 he).1
 obtain ⟨x, hx, g1, g2, g3, g4⟩ := hc.2.2.2 e hel r n hr i h1 h2
 refine ⟨x, hk.cls e he x hx ⟨(hc.2.2.1 e hel).1.1, by omega, by omega, n, by rw [g1];simpa using hr, by omega⟩, g1, g2, g3, g4⟩
theorem partC_ev {l : List EvS} {c : List Int} (hc : ClosedE l) (hv : ValC c) (hl : c.length = n0 l) : ∀ (i : Nat) x, (partC l c)[i]? = some x → 1 ≤ x → ∃ e ∈ l, e.rep.toNat = i ∧ 0 ≤ e.rep ∧ e.num = x := by
 let Q : List Int → Prop := fun k => ∀ (i : Nat) x, k[i]? = some x → 1 ≤ x → ∃ e ∈ l, e.rep.toNat = i ∧ 0 ≤ e.rep ∧ e.num = x
 have hp1 := part1_ok hc hv hl
 -- any number that is at most one of the clock of the list
 have key : ∀ q, q < n0 l → ∀ y x : Int, (clkE (n0 l) l)[q]? = some y → 1 ≤ x → x ≤ y → ∃ e ∈ l, e.rep.toNat = q ∧ 0 ≤ e.rep ∧ e.num = x := by
  intro q hq y x hy h1 h2
  obtain ⟨y', g1, g2, g3⟩ := clkE_at hc (A := l) (fun _ h => h) hq
  rw [hy] at g1;cases g1
  obtain ⟨a, ha, b1, b2⟩ := (g3 x h1).1 h2
  have hf := (hc.2.2.1 a ha).1
  have hfr := formed_rep hf
  rcases Int.lt_or_eq_of_le b2 with hlt|heq
  ·obtain ⟨_, _, ⟨z, f3, f4⟩, _⟩ := hf
   obtain ⟨d, hd, d1, d2, _⟩ := hc.2.2.2 a ha a.rep.toNat z f3 x h1 (by omega)
   exact ⟨d, hd, by omega, by omega, d2⟩
  ·exact ⟨a, ha, b1, hfr.1, heq.symm⟩
 have q1 : Q (part1 l c) := by
  intro i x hx h1
  have hi : i < n0 l := by have := (List.getElem?_eq_some_iff.1 hx).1;rw [hp1.2] at this;exact this
  unfold part1 at hx
  rw [hl] at hx
  obtain ⟨a, b, h2, h3, h4⟩ := (zipC_at (by rw [hl, clkE_len])).1 hx
  exact key i hi b x h3 h1 (by omega)
 have step : ∀ (xs : List EvS), (∀ x ∈ xs, x ∈ l) → ∀ k, Q k → k.length = n0 l → Q (xs.foldl (fun k x => joinC k x.past) k) := by
  intro xs
  induction xs with
  | nil => exact fun _ k hk _ => hk
  | cons e xs ih =>
   intro hxs k hk hkl
   have he := hxs e (by simp)
   have hel := (hc.2.2.1 e he).2
   rw [List.foldl_cons]
   refine ih (fun x hx => hxs x (by simp [hx])) _ (fun i x hx h1 => ?_) ?_
   ·obtain ⟨a, b, h2, h3, h4⟩ := (zipC_at (by rw [hkl, hel])).1 hx
    by_cases hab : b ≤ a
    ·exact hk i x (by rw [h2];congr 1;omega) h1
    ·obtain ⟨d, hd, d1, d2, _⟩ := hc.2.2.2 e he i b h3 x h1 (by omega)
     exact ⟨d, hd, by omega, by omega, d2⟩
   ·rw [joinC_len (by rw [hkl, hel]), hkl]
 exact step (cutL l (part1 l c)) (fun x hx => (mem_cut.1 hx).1) _ q1 hp1.2
/-! ### Compaction -/
structure StoS where
 base : NowS
 evs : List EvS
 now : NowS
noncomputable def mrg1 (m : ModS) (k : List MgS) (e : EvS) : List MgS := (applyF m k e).2
end Go.Proofs.YtmllihbhphnolaaGreat
namespace Go.Proofs.YtmllihbhphnolaaGreat
open Go Go.CF
set_option maxRecDepth 20000
def BefE (a b : EvS) : Prop := FormedE a ∧ FormedE b ∧ HasC b.past a.rep a.num
def FreeE (rest : List EvS) (e : EvS) : Prop := ∀ y ∈ rest, ¬ BefE y e
noncomputable instance (rest : List EvS) (e : EvS) : Decidable (FreeE rest e) := Classical.propDecidable _
noncomputable def freeN (rest : List EvS) : Nat → List Int
 | 0 => []
 | n + 1 => freeN rest n ++ (match rest[n]? with
  | some e => if FreeE rest e then [(n : Int)] else []
  | none => [])
noncomputable def atF (order : List Int) (n : Nat) (fr : List Int) : Int := match order[n]? with
 | some x => (fr[(x % (fr.length : Int)).toNat]?).getD 0
 | none => (fr[0]?).getD 0
inductive ExtR (order : List Int) : List EvS → List EvS → List EvS → Prop
 | done {out : List EvS} : ExtR order out [] out
 | step {out rest X : List EvS} {e : EvS} {i : Nat} : freeN rest rest.length ≠ [] → atF order out.length (freeN rest rest.length) = i → rest[i]? = some e → ExtR order (out ++ [e]) (rest.eraseIdx i) X → ExtR order out rest X
theorem free_mem {rest : List EvS} {n : Nat} (hn : n ≤ rest.length) {x : Int} : x ∈ freeN rest n ↔ ∃ (i : Nat) (e : EvS), x = i ∧ i < n ∧ rest[i]? = some e ∧ FreeE rest e := by
 induction n with
 | zero => simp [freeN]
 | succ n ih =>
  obtain ⟨e, he⟩ := get_of (l := rest) (i := n) (by omega)
  rw [freeN, List.mem_append, ih (by omega), he]
  constructor
  ·rintro (⟨i, d, h1, h2, h3⟩|h)
   ·exact ⟨i, d, h1, by omega, h3⟩
   ·simp only at h
    split at h
    ·rename_i hf
     exact ⟨n, e, List.mem_singleton.1 h, by omega, he, hf⟩
    ·cases h
  ·rintro ⟨i, d, h1, h2, h3, h4⟩
   by_cases hi : i < n
   ·exact .inl ⟨i, d, h1, hi, h3, h4⟩
   ·have : i = n := by omega
    subst this
    rw [he] at h3;cases h3
    right
    simp only [if_pos h4, h1, List.mem_singleton]
theorem at_mem {order : List Int} (ho : ∀ x ∈ order, 0 ≤ x) {n : Nat} {fr : List Int} (hf : fr ≠ []) : atF order n fr ∈ fr := by
 have hl : 0 < fr.length := List.length_pos_iff.2 hf
 unfold atF
 split
 ·rename_i x hx
  have := ho x (List.mem_of_getElem? hx)
  have h1 : 0 ≤ x % (fr.length : Int) := Int.emod_nonneg _ (by omega)
  have h2 : x % (fr.length : Int) < fr.length := Int.emod_lt_of_pos _ (by omega)
  obtain ⟨y, hy⟩ := get_of (l := fr) (i := (x % (fr.length : Int)).toNat) (by omega)
  rw [hy, Option.getD_some]
  exact List.mem_of_getElem? hy
 ·obtain ⟨y, hy⟩ := get_of (l := fr) (i := 0) hl
  rw [hy, Option.getD_some]
  exact List.mem_of_getElem? hy
theorem erase_perm {α : Type} : ∀ {l : List α} {i : Nat} {e : α}, l[i]? = some e → l.Perm (e :: l.eraseIdx i)
 | [], i, e, h => by simp at h
 | a :: l, 0, e, h => by
  simp only [List.getElem?_cons_zero, Option.some.injEq] at h
  subst h
  exact List.Perm.refl _
 | a :: l, i + 1, e, h => by
  have ih := erase_perm (l := l) (i := i) (e := e) (by simpa using h)
  rw [List.eraseIdx_cons_succ]
  exact (ih.cons a).trans (List.Perm.swap e a _)
theorem uniq_nodup {l : List EvS} (h : Uniq l) : l.Nodup := by
 rw [List.nodup_iff_pairwise_ne, List.pairwise_iff_getElem]
 intro i j hi hj hij he
 have := h i j _ _ (List.getElem?_eq_getElem hi) (List.getElem?_eq_getElem hj) (by rw [he])
 omega
theorem free_ne {l rest : List EvS} (hc : ClosedE l) (hr : ∀ e ∈ rest, e ∈ l) (hn : rest ≠ []) : freeN rest rest.length ≠ [] := by
 have key : ∀ n, n ≤ rest.length → 0 < n → ∃ (i : Nat) (e : EvS), i < n ∧ rest[i]? = some e ∧ ∀ y ∈ rest.take n, e.time ≤ y.time := by
  intro n
  induction n with
  | zero => intro _ h;omega
  | succ n ih =>
   intro h1 _
   obtain ⟨d, hd⟩ := get_of (l := rest) (i := n) (by omega)
   have htk : rest.take (n + 1) = rest.take n ++ [d] := by rw [List.take_add_one, hd];rfl
   rw [htk]
   by_cases h0 : n = 0
   ·subst h0
    exact ⟨0, d, by omega, hd, fun y hy => by simp at hy;subst hy;exact Int.le_refl _⟩
   ·obtain ⟨i, e, g1, g2, g3⟩ := ih (by omega) (by omega)
    by_cases hle : e.time ≤ d.time
    ·refine ⟨i, e, by omega, g2, fun y hy => ?_⟩
     rcases List.mem_append.1 hy with hy|hy
     ·exact g3 y hy
     ·rw [List.mem_singleton.1 hy];exact hle
    ·refine ⟨n, d, by omega, hd, fun y hy => ?_⟩
     rcases List.mem_append.1 hy with hy|hy
     ·have := g3 y hy;omega
     ·rw [List.mem_singleton.1 hy];exact Int.le_refl _
 obtain ⟨i, e, h1, h2, h3⟩ := key rest.length (Nat.le_refl _) (List.length_pos_iff.2 hn)
 rw [List.take_length] at h3
 have : (i : Int) ∈ freeN rest rest.length := (free_mem (Nat.le_refl _)).2 ⟨i, e, rfl, h1, h2, fun y hy hb => by
  have h4 := h3 y hy
  have := (closed_past hc (hr e (List.mem_of_getElem? h2)) (hr y hy) hb.2.2).1
  omega⟩
 exact fun h => by rw [h] at this;cases this
theorem ext_run {l : List EvS} (hc : ClosedE l) {order : List Int} (ho : ∀ x ∈ order, 0 ≤ x) : ∀ (n : Nat) (out rest : List EvS), rest.length = n → (out ++ rest).Perm l → ExtO l out → ∃ X, ExtR order out rest X ∧ ExtO l X ∧ X.Perm l := by
 intro n
 induction n with
 | zero =>
  intro out rest hn hp hx
  have hr := List.eq_nil_of_length_eq_zero hn
  subst hr
  exact ⟨out, .done, hx, by simpa using hp⟩
 | succ n ih =>
  intro out rest hn hp hx
  have hsub : ∀ e ∈ rest, e ∈ l := fun e he => hp.mem_iff.1 (by simp [he])
  have hf := free_ne hc hsub (by intro h;rw [h] at hn;cases hn)
  have hm := at_mem ho (n := out.length) hf
  obtain ⟨i, e, h1, h2, h3, h4⟩ := (free_mem (Nat.le_refl _)).1 hm
  have hel := hsub e (List.mem_of_getElem? h3)
  have hpe : rest.Perm (e :: rest.eraseIdx i) := erase_perm h3
  have hp2 : ((out ++ [e]) ++ rest.eraseIdx i).Perm l := by
   rw [List.append_assoc]
   exact (hpe.symm.append_left out).trans hp
  have hnd : (out ++ rest).Nodup := hp.symm.nodup (uniq_nodup hc.2.1)
  have hno : e ∉ out := fun h => (List.nodup_append.1 hnd).2.2 e h e (List.mem_of_getElem? h3) rfl
  obtain ⟨X, g1, g2, g3⟩ := ih (out ++ [e]) (rest.eraseIdx i) (by rw [List.length_eraseIdx, if_pos h2];omega) hp2 (hx.snoc hel hno fun d hd hh => by
   have hd2 : d ∈ out ++ rest := hp.mem_iff.2 hd
   rcases List.mem_append.1 hd2 with h9|h9
   ·exact h9
   ·exact absurd ⟨(hc.2.2.1 d hd).1, (hc.2.2.1 e hel).1, hh⟩ (h4 d h9))
  exact ⟨X, .step hf h1 h3 g1, g2, g3⟩
theorem ext_ok {l : List EvS} (hc : ClosedE l) {order : List Int} (ho : ∀ x ∈ order, 0 ≤ x) : ∃ X, ExtR order [] (ordE l) X ∧ ExtO l X ∧ X.Perm l :=
 ext_run hc ho _ [] (ordE l) rfl (by simpa using (ordE_perm l).symm) (ExtO.nil l)
end Go.Proofs.YtmllihbhphnolaaGreat
namespace Go.Proofs.YtmllihbhphnolaaGreat
open Go Go.CF
set_option maxRecDepth 20000
abbrev u8s (l : List Int) : AV := .sl 1 l fun x => [.val (.int .u8 x)]
end Go.Proofs.YtmllihbhphnolaaGreat
namespace Go.Proofs.YtmllihbhphnolaaGreat
open Go Go.CF
set_option maxRecDepth 20000
structure SuitS (m : ModS) (ld : List Int) (l : List EvS) : Prop where
 e : SuitE m l
 ne : 0 < l.length
 ln : ld.length = strF m
 ld : ∀ x ∈ ld, -1000 ≤ x ∧ x ≤ 1000
 sm : ∀ a ∈ m.acts, ∀ p ∈ a.eff.delta, -1000 ≤ p.2 ∧ p.2 ≤ 1000
theorem SuitS.smd {m : ModS} {ld : List Int} {l : List EvS} (h : SuitS m ld l) : SmD m := fun a ha => ⟨(h.e.1.eff a ha).dl, h.sm a ha⟩
end Go.Proofs.YtmllihbhphnolaaGreat
namespace Go.Proofs.YtmllihbhphnolaaGreat
open Go Go.CF
set_option maxRecDepth 20000
noncomputable def stN (m : ModS) (n : Nat) (ld : List Int) (X : List EvS) : NowS := ⟨clkE n X, X.foldl (fun t e => max t e.time) 0, X.foldl (addE m) ld, X.foldl (mrg1 m) (List.replicate (mrgF m).length mg0), X.foldl plE []⟩
theorem deliver_st {m : ModS} {evl : List EvS} {w : NowS} {e : EvS} (h : (deliverF m evl w e).1 = 0) : (deliverF m evl w e).2 = ⟨cntF w.clock e, max w.time e.time, addE m w.state e, (applyF m w.merged e).2, plE w.places e⟩ := by
 unfold deliverF at h ⊢
 repeat' split
 all_goals first
  | rfl
  | (exfalso;simp_all;done)
theorem deliver_ok' {m : ModS} {evl : List EvS} {w : NowS} {e : EvS} (h : (deliverF m evl w e).1 = 0) : ValL (mrgF m) w.merged ∧ EvV m (w.clock.length : Nat) e ∧ (applyF m w.merged e).1 = 0 := by
 have key : EvV m (w.clock.length : Nat) e ∧ (applyF m w.merged e).1 = 0 := by
  unfold deliverF at h
  repeat' split at h
  all_goals first
   | (exfalso;simp at h;done)
   | (rename_i h1 _ _ _ _ h6;exact ⟨Classical.not_not.1 h1, Classical.not_not.1 h6⟩)
   | (rename_i h6;exact absurd h h6)
 exact ⟨(applyF_ok key.2).1, key⟩
theorem plL_len (l : List EvS) : (plL l).length ≤ l.length := by unfold plL;rw [List.length_map];exact List.length_filter_le _ _
theorem foldE_len (m : ModS) (X : List EvS) : ∀ ld : List Int, (X.foldl (addE m) ld).length = ld.length := by
 induction X with
 | nil => exact fun _ => rfl
 | cons e X ih => intro ld;rw [List.foldl_cons, ih, addE_len]
theorem insS_ld {ld : List Int} (h : ∀ x ∈ ld, -1000 ≤ x ∧ x ≤ 1000) : insS ld := fun x hx => by have := h x hx;omega
end Go.Proofs.YtmllihbhphnolaaGreat
namespace Go.Proofs.YtmllihbhphnolaaGreat
open Go Go.CF
set_option maxRecDepth 20000
theorem withP_srt {l : List Int} {n : Int} (h : SrtI l) : SrtI (withP l n) := (withP_si (l := l) (s := l) (n := n) ⟨h, fun _ => Iff.rfl⟩).1
theorem withP_le {l : List Int} {n : Int} (h : SrtI l) : (withP l n).length ≤ l.length + 1 := by
 by_cases hn : n ∈ l
 ·rw [show withP l n = l from if_pos hn];omega
 ·rw [with_eq h hn];simp;have := idxN_le (fun y => decide (¬ y < n)) l;unfold posI;omega
theorem plE_srt {l : List Int} {e : EvS} (h : SrtI l) : SrtI (plE l e) ∧ (plE l e).length ≤ l.length + 1 := by
 unfold plE
 split
 ·exact ⟨withP_srt h, withP_le h⟩
 ·exact ⟨h, by omega⟩
end Go.Proofs.YtmllihbhphnolaaGreat
namespace Go.Proofs.YtmllihbhphnolaaGreat
open Go Go.CF
set_option maxRecDepth 20000
/-! ### The model -/
def tC : TblS := ⟨⟨#[99]⟩, 1, [], 0, 9, 0⟩
/-! ### Two events -/
def ca : EvS := ⟨0, 1, 1, [0, 0], 0, 0, 0, 0, 0, 0, 0, 0, 1⟩
def cb : EvS := ⟨1, 1, 1, [0, 0], 0, 1, 0, 0, 0, 0, 0, 0, 1⟩
theorem val2 (a b : Int) (ha : 0 ≤ a ∧ a ≤ 1024) (hb : 0 ≤ b ∧ b ≤ 1024) : ValC [a, b] := ⟨fun x hx => by
 simp only [List.mem_cons, List.not_mem_nil, or_false] at hx
 unfold rngK
 omega, by simp, by simp⟩
theorem ins_2 {a b c d : Int} (h1 : a ≤ c) (h2 : b ≤ d) : Ins [a, b] [c, d] := fun i x y hx hy => by
 match i with
 | 0 => simp at hx hy;omega
 | 1 => simp at hx hy;omega
 | i + 2 => simp at hx
end Go.Proofs.YtmllihbhphnolaaGreat
namespace Go.Proofs.YtmllihbhphnolaaGreat
open Go Go.CF
set_option maxRecDepth 20000
theorem ext_nil_ok {l : List EvS} (hc : ClosedE l) (order : List Int) (ho : ∀ x ∈ order, 0 ≤ x ∧ x ≤ 255) : ∃ X, ExtR order [] (ordE l) X ∧ ExtO l X ∧ X.Perm l := ext_ok hc fun x hx => (ho x hx).1
theorem cnt_val {c : List Int} {e : EvS} (hc : ValC c) (hn : 0 ≤ e.num ∧ e.num ≤ 1024) : ValC (cntF c e) := by
 refine ⟨fun z hz => ?_, by simp [cntF];exact hc.2.1, by simp [cntF];exact hc.2.2⟩
 rcases List.mem_or_eq_of_mem_set hz with h|h
 ·exact hc.1 z h
 ·rw [h]
  cases hx : c[e.rep.toNat]? with
  | none => rw [Option.getD_none];unfold rngK;omega
  | some y =>
   have := hc.1 y (List.mem_of_getElem? hx)
   rw [Option.getD_some]
   unfold rngK at *
   omega
theorem now_deliver {m : ModS} {evl : List EvS} {w : NowS} {e : EvS} (hw : NowOK m w) (hp : w.places.length < 100000) (h : (deliverF m evl w e).1 = 0) : NowOK m (deliverF m evl w e).2 := by
 have hv := (deliver_ok' h).2.1.1
 have hf := formed_rep hv
 rw [deliver_st h]
 refine ⟨cnt_val hw.clk ⟨by omega, hv.2.2.2.1⟩, by simp only [addE_len];exact hw.st, (plE_srt hw.pls).1, by have := (plE_srt (e := e) hw.pls).2;simp only;omega⟩
end Go.Proofs.YtmllihbhphnolaaGreat
namespace Go.Proofs.YtmllihbhphnolaaGreat
open Go Go.CF
set_option maxRecDepth 20000
/-! ### The example -/
theorem v2 (x y : Int) (hx : 0 ≤ x ∧ x ≤ 1024) (hy : 0 ≤ y ∧ y ≤ 1024) : ValC [x, y] ∧ [x, y].length = 2 := ⟨⟨by simp [rngK];omega, by simp, by simp⟩, rfl⟩
end Go.Proofs.YtmllihbhphnolaaGreat
namespace Go.Proofs.YtmllihbhphnolaaGreat
open Go Go.CF
set_option maxRecDepth 20000
/-! ### Names -/
theorem uniq_pair {l : List EvS} : Uniq l ↔ l.Pairwise fun a b => nm a ≠ nm b := by
 rw [List.pairwise_iff_getElem]
 constructor
 ·intro h i j hi hj hij he
  have := h i j _ _ (List.getElem?_eq_getElem hi) (List.getElem?_eq_getElem hj) he
  omega
 ·intro h i j a b ha hb he
  obtain ⟨hi, rfl⟩ := List.getElem?_eq_some_iff.1 ha
  obtain ⟨hj, rfl⟩ := List.getElem?_eq_some_iff.1 hb
  rcases Nat.lt_trichotomy i j with h2|h2|h2
  ·exact absurd he (h i j hi hj h2)
  ·exact h2
  ·exact absurd he.symm (h j i hj hi h2)
/-! ### The greatest closed clock -/
/-! ### Clocks of lists -/
/-! ### Cuts -/
end Go.Proofs.YtmllihbhphnolaaGreat
namespace Go.Proofs.YtmllihbhphnolaaGreat
open Go Go.CF
set_option maxRecDepth 20000
theorem dname_p (e : EvS) : CallP Tryz.prog 167 [evA' e] (dotC e.rep e.num) := by
 refine CallA.of pg ord167 Tryz.func167 rfl Tryz.ntmps167 Tryz.results167 rfl fun h0 G0 O0 => ?_
 repeat' (first|refine Sp.h ?_|refine Lk.r rfl ?_|refine Rf.mk rfl ?_|(refine All.mk ?_;intro _)|refine xT ?_|(apply SetAsk.r;focus repeat' constructor)|(apply Fk.r;focus repeat' first|infer_instance|constructor)|refine xN ?_|fail)
 exact Fin.p rfl rfl
theorem dclone_a (e : EvS) (hl : e.past.length ≤ 1000000) : CallA Tryz.prog 170 [evA' e] [] fun r own => ∃ v, r = .agg [iv e.rep, iv e.num, iv e.time, .ow v, iv e.kind, iv e.action, iv e.gk, iv e.gi, iv e.ge, iv e.ga, iv e.to, iv e.place, iv e.serial] ∧ own = [arrR v 3 1 e.past intC] := by
 have h := clone_o e.past (by omega)
 refine CallA.of pg ord170 Tryz.func170 rfl Tryz.ntmps170 Tryz.results170 rfl fun h0 G0 O0 => ?_
 repeat' (first|refine Sp.h ?_|refine Lk.r rfl ?_|refine Rf.mk rfl ?_|(refine All.mk ?_;intro _)|refine xT ?_|refine xN ?_|fail)
 (refine Cl.use (h) (by repeat' (first|exact Lend.nil|apply Lend.keep|fail)) .nil rfl ?_;rintro _ _ ⟨_, rfl, rfl⟩)
 repeat' (first|refine Sp.h ?_|refine Lk.r rfl ?_|refine Rf.mk rfl ?_|refine xT ?_|refine Ch.l ⟨rfl, rfl⟩ ?_|refine xV ?_|(apply SetAsk.r;focus repeat' constructor)|refine xN ?_|fail)
 exact ⟨_, _, .one (.same (.z)), _, rfl, rfl⟩
theorem dclone_p (e : EvS) (hl : e.past.length ≤ 1000000) : CallP Tryz.prog 170 [evA' e] (evA' e) :=
 CallA.fx (dclone_a e hl) fun _ _ ⟨_, e1, e2⟩ => by
  subst e1;subst e2
  refine FX.agg (cs' := [iv e.rep, iv e.num, iv e.time, ints e.past, iv e.kind, iv e.action, iv e.gk, iv e.gi, iv e.ge, iv e.ga, iv e.to, iv e.place, iv e.serial]) ?_ .nil
  (repeat' (first|exact FX.nil|(apply FX.s1;(focus repeat constructor);(focus first|omega|(simp;done)|(simp;omega)))|apply FX.k))
abbrev bufB (b : Nat) (vc : Value) (mb : Nat) : Res := blkR b 234 [.ow vc, .val (.map (some mb))]
abbrev heldR (mb : Nat) (H : List (List Int × EvS)) : Res := mapR Tryz.prog mb 53 H evA'
abbrev clkR (vc : Value) (c : List Int) : Res := arrR vc 3 1 c intC
structure HldOK (N : Nat) (H : List (List Int × EvS)) : Prop where
 rep : ∀ p ∈ H, 0 ≤ p.2.rep ∧ p.2.rep < (N : Int)
 key : ∀ p ∈ H, p.1 = [p.2.rep, p.2.num]
 fm : ∀ p ∈ H, p.2.past.length ≤ 5
 len : H.length ≤ 300
 nd : Uniq (H.map (·.2))
theorem uniq_perm {l l' : List EvS} (hp : l.Perm l') (h : Uniq l) : Uniq l' := uniq_pair.2 ((hp.pairwise_iff fun h9 h8 => h9 h8.symm).1 (uniq_pair.1 h))
theorem dlist_a (b : Nat) (vc : Value) (mb : Nat) (c : List Int) (H : List (List Int × EvS)) {N : Nat} (h : HldOK N H) : CallA Tryz.prog 175 [pm b] [bufB b vc mb, clkR vc c, heldR mb H] fun r own => r = evs (ordE (H.map (·.2))) ∧ own = [bufB b vc mb, clkR vc c, heldR mb H] := by
 refine CallA.of pg ord175 Tryz.func175 rfl Tryz.ntmps175 Tryz.results175 rfl fun h0 G0 O0 => ?_
 repeat' (first|refine Sp.h ?_|refine Lk.r rfl ?_|refine Rf.mk rfl ?_|(refine All.mk ?_;intro _)|refine xT ?_|refine xM ?_|fail)
 rename_i r
 refine CA.nilOwn 3 37 13 evC rfl fun v0 => ?_
 refine CA.loop (fun x : List (List Int × EvS) × List EvS × Value × Option (List Int × EvS) => ⟨[(3, .ow x.2.2.1), (10, pm r)], [itcR Tryz.prog mb r 53 H x.1 evA' x.2.2.2, arrR x.2.2.1 37 13 x.2.1 evC, bufB b vc mb, clkR vc c]⟩)
  (fun x => (x.2.1 ++ x.1.map (·.2)).Perm (H.map (·.2))) (fun x => x.1.length) (H, [], v0, none) xE (List.Perm.refl _) ?_
 rintro ⟨rem, L, v, cur⟩ hp
 simp only at hp
 have hlen := hp.length_eq
 simp only [List.length_append, List.length_map] at hlen
 have hH := h.len
 repeat' (first|refine Sp.h ?_|refine Lk.r rfl ?_|refine Rf.mk rfl ?_|(apply TkJ.r;(focus repeat constructor))|(apply NxK.mk)|fail)
 ·intro p rem' hpr
  have hmem : p ∈ rem := hpr.mem_iff.1 (by simp)
  have hpm : p.2 ∈ H.map (·.2) := hp.mem_iff.1 (List.mem_append_right _ (List.mem_map_of_mem hmem))
  obtain ⟨p0, hp0, hp1⟩ := List.mem_map.1 hpm
  have hcl := dclone_p p.2 (by have := h.fm p0 hp0;rw [hp1] at this;omega)
  repeat' (first|refine Sp.h ?_|refine Lk.r rfl ?_|refine Rf.mk rfl ?_|refine xP ?_|(refine All.mk ?_;intro _)|refine xU ?_|refine xT ?_|refine Ce.r ?_|refine Ch.l ⟨rfl, rfl⟩ ?_|(apply SetAsk.r;focus repeat' constructor)|(apply Fk.r;focus repeat' first|infer_instance|constructor)|refine xN ?_|refine Rf.mk ⟨rfl, rfl⟩ ?_|refine Rf.mk ⟨rfl, rfl, rfl⟩ ?_|(apply Mp.lit;(focus repeat (first|exact MpL.nil|(apply MpL.cons;(focus rfl))|(apply MpL.inv;(focus repeat constructor);(focus infer_instance)))))|(apply TkE.r;(focus repeat constructor))|(apply Cl.p (hcl);(focus repeat' (first|exact Lend.nil|apply Lend.keep|fail))))
  refine PA.lp (rem', L ++ [p.2], _, some p) xE ⟨?_, ?_⟩
  ·simp only
   rw [List.append_assoc]
   refine List.Perm.trans (List.Perm.append_left L ?_) hp
   simpa using hpr.map (·.2)
  ·have := hpr.length_eq
   simp only [List.length_cons] at this ⊢
   omega
 ·intro hn
  subst hn
  simp only [List.map_nil, List.append_nil] at hp
  have hu : Uniq L := uniq_perm hp.symm h.nd
  have hord := order_p L hu (by have := hp.length_eq;simp at this;omega)
  have hoe : ordE L = ordE (H.map (·.2)) := ordE_uniq h.nd (hp.symm.trans (ordE_perm L)) (ordE_srt L)
  rw [hoe] at hord
  (repeat' (first|(show CA _ _ (Code.region 6 _ _) _ _;apply Stopped.out)|refine Sp.h ?_|refine Lk.r rfl ?_|fail));any_goals apply Stopped.mk
  apply CA.own (OX.itc (by repeat constructor))
  apply CA.freeze 3
  focus rfl
  focus (repeat constructor)
  focus (simp only [List.length_nil, Nat.add_zero] at hlen;simp only;omega)
  repeat' (first|refine Sp.h ?_|refine Lk.r rfl ?_|refine Rf.mk rfl ?_|refine xN ?_|(apply Cl.p (hord);(focus repeat' (first|exact Lend.nil|apply Lend.keep|fail))))
  exact ⟨_, [bufB b vc mb, clkR vc c, heldR mb H], .one (.same (.z)), rfl, rfl⟩
end Go.Proofs.YtmllihbhphnolaaGreat
namespace Go.Proofs.YtmllihbhphnolaaGreat
open Go Go.CF
set_option maxRecDepth 20000
def RdyE (c : List Int) (e : EvS) : Prop := ¬ HasC c e.rep e.num ∧ (AlikeC [c, e.past] → Ins e.past c)
noncomputable instance (c : List Int) (e : EvS) : Decidable (RdyE c e) := Classical.propDecidable _
theorem dready_p (c : List Int) (M : Value) (e : EvS) : CallP Tryz.prog 168 [.ad [ints c, .val M] 0, evA' e] (bl (decide (RdyE c e))) := by
 have h1 := dname_p e
 have h2 := hasC_p c e.rep e.num
 have h3 := missing_o c e.past
 refine CallA.of pg ord168 Tryz.func168 rfl Tryz.ntmps168 Tryz.results168 rfl fun h0 G0 O0 => ?_
 repeat' (first|refine Sp.h ?_|refine Lk.r rfl ?_|refine Rf.mk rfl ?_|refine xA ?_|refine xB ?_|(refine Bd.mk ?_ ?_ <;> intro _)|refine OpK.r rfl ?_|(refine All.mk ?_;intro _)|refine xT ?_|refine Ch.l ⟨rfl, rfl⟩ ?_|refine xN ?_|refine xD ?_|(apply Cl.p (h1);(focus ((repeat' (first|exact Lend.nil|apply Lend.keep|fail));done)))|(apply Cl.p (h2);(focus ((repeat' (first|exact Lend.nil|apply Lend.keep|fail));done))))
 ·rename_i hh
  exact Fin.p rfl (vb (decide_eq_false fun h => h.1 hh).symm)
 ·rename_i hh
  refine xW (h3) ?_
  rintro _ _ ⟨v, sp, rfl, rfl, g1, g2⟩
  repeat' (first|refine Sp.h ?_|refine Lk.r rfl ?_|refine xB ?_|refine OpK.r rfl ?_|refine xU ?_|refine xN ?_|fail)
  refine Fin.p rfl (vb (decide_eq_decide.2 ?_))
  constructor
  ·intro h9
   exact ⟨hh, g1.1 (List.eq_nil_of_length_eq_zero (by omega))⟩
  ·intro h9
   rw [g1.2 h9.2];rfl
theorem dindex_a (b : Nat) (vc : Value) (mb : Nat) (c : List Int) (hc : c.length ≤ 1000000) (l : List EvS) : CallA Tryz.prog 115 [evs l, .fb 168 [pm b]] [bufB b vc mb, clkR vc c] fun r own => r = it (idxI (fun e => decide (RdyE c e)) l) ∧ own = [bufB b vc mb, clkR vc c] := by
 refine CallA.of pg ord115 Tryz.func115 rfl Tryz.ntmps115 Tryz.results115 rfl fun h0 G0 O0 => ?_
 repeat' (first|refine Sp.h ?_|refine Lk.r rfl ?_|refine Rf.mk rfl ?_|(refine Im.mk ?_;intro _)|fail)
 rename_i hll
 refine CA.loop (fun i : Nat => ⟨[(0, evs l), (1, .fb 168 [pm b]), (7, .val (.int .i64 l.length)), (8, .val (.int .i64 i))], [bufB b vc mb, clkR vc c]⟩)
  (fun i => i ≤ l.length ∧ ∀ j y, j < i → l[j]? = some y → decide (RdyE c y) = false) (fun i => l.length - i) 0 xE ⟨Nat.zero_le _, fun j y h => by omega⟩ ?_
 rintro i ⟨hi, hj⟩
 by_cases hin : i < l.length
 ·obtain ⟨e, hx⟩ := get_of hin
  have hr := dready_p c (.map (some mb)) e
  repeat' (first|refine Sp.h ?_|refine Lk.r rfl ?_|refine Rf.mk rfl ?_|refine xA ?_|refine xI ?_|refine Ch.l ⟨rfl, rfl⟩ ?_|fail)
  (apply Cl.lend (hr);(focus repeat' (first|exact Lend.nil|apply Lend.keep|(apply Lend.lend;(focus repeat constructor);(focus first|omega|(simp;omega)))|(apply Lend.cell;(focus repeat constructor))|fail)))
  repeat' (first|refine Sp.h ?_|refine Lk.r rfl ?_|refine Rf.mk rfl ?_|(refine Bd.mk ?_ ?_ <;> intro _)|refine xN ?_|refine xO ?_|fail)
  ·rename_i hp
   exact ⟨_, [bufB b vc mb, clkR vc c], .one (.same (.z)), by rw [idxI, idxN_of hx (decide_eq_true hp) hj, if_pos hin], rfl⟩
  ·rename_i hp
   refine PA.lp (i + 1) xE ⟨⟨hin, fun j y h1 h2 => ?_⟩, by omega⟩
   by_cases hij : j = i
   ·subst hij;rw [hx] at h2;cases h2;exact decide_eq_false hp
   ·exact hj j y (by omega) h2
 ·repeat' (first|refine Sp.h ?_|refine Lk.r rfl ?_|refine Rf.mk rfl ?_|refine xB ?_|refine xN ?_|fail)
  exact ⟨_, [bufB b vc mb, clkR vc c], .one (.same (.z)), by rw [idxI, idxN_none (fun x hx => by obtain ⟨j, hx⟩ := List.getElem?_of_mem hx;exact hj j x (by have := (List.getElem?_eq_some_iff.1 hx).1;omega) hx), if_neg (by omega)], rfl⟩
end Go.Proofs.YtmllihbhphnolaaGreat
namespace Go.Proofs.YtmllihbhphnolaaGreat
open Go Go.CF
set_option maxRecDepth 20000
theorem ddeliver_a (b : Nat) (vc : Value) (mb : Nat) (c : List Int) (H : List (List Int × EvS)) (e : EvS) (x : Int) (h0' : 0 ≤ e.rep) (hx : c[e.rep.toNat]? = some x) : CallA Tryz.prog 169 [pm b, evA' e] [bufB b vc mb, clkR vc c, heldR mb H] fun r own => r = .tup [] ∧ own = [bufB b vc mb, clkR vc (cntF c e), heldR mb (delL H [e.rep, e.num])] := by
 obtain ⟨q, hq⟩ : ∃ q : Nat, e.rep = q := ⟨e.rep.toNat, by omega⟩
 have hx' : c[q]? = some x := by rw [hq, Int.toNat_natCast] at hx;exact hx
 have hql := (List.getElem?_eq_some_iff.1 hx').1
 have h1 := dname_p e
 have hcn : cntF c e = c.set q (max x e.num) := by rw [cntF, hq, Int.toNat_natCast, hx', Option.getD_some]
 rw [hcn]
 refine CallA.of pg ord169 Tryz.func169 rfl Tryz.ntmps169 Tryz.results169 rfl fun h0 G0 O0 => ?_
 repeat' (first|refine Sp.h ?_|refine Lk.r rfl ?_|refine Rf.mk rfl ?_|refine OpK.r rfl ?_|(refine All.mk ?_;intro _)|refine xU ?_|refine xT ?_|(apply Ix.r;(focus assumption);(focus omega))|refine xJ ?_|refine Ch.l ⟨rfl, rfl⟩ ?_|refine xV ?_|refine xN ?_|refine Up.r rfl ?_|refine xK ?_|(apply Kf.mk;(focus kernel_rfl))|refine xM ?_|refine xD ?_|(apply Cl.p (h1);(focus ((repeat' (first|exact Lend.nil|apply Lend.keep|fail));done))))
 exact ⟨_, [bufB b vc mb, clkR vc (c.set q (max x e.num)), heldR mb (delL H [e.rep, e.num])], .tup (.z), rfl, rfl⟩
theorem delL_sub {β : Type} (k : List Int) : ∀ H : List (List Int × β), (delL H k).Sublist H
 | [] => .slnil
 | p :: H => by
  simp only [delL]
  split
  ·exact List.sublist_cons_self _ _
  ·exact (delL_sub k H).cons_cons _
theorem delL_len {β : Type} {k : List Int} : ∀ {H : List (List Int × β)}, (∃ p ∈ H, p.1 = k) → (delL H k).length + 1 = H.length
 | [], h => by obtain ⟨p, hp, _⟩ := h;cases hp
 | p :: H, h => by
  simp only [delL]
  split
  ·simp
  ·rename_i hne
   obtain ⟨r, hr, hk⟩ := h
   have : ∃ p ∈ H, p.1 = k := by
    rcases List.mem_cons.1 hr with rfl|hr
    ·exact absurd hk hne
    ·exact ⟨r, hr, hk⟩
   have := delL_len this
   simp;omega
theorem HldOK.del {N : Nat} {H : List (List Int × EvS)} (h : HldOK N H) (k : List Int) : HldOK N (delL H k) := by
 have hs := delL_sub k H
 refine ⟨fun p hp => h.rep p (hs.mem hp), fun p hp => h.key p (hs.mem hp), fun p hp => h.fm p (hs.mem hp), Nat.le_trans hs.length_le h.len, ?_⟩
 exact uniq_pair.2 (List.Pairwise.sublist (hs.map _) (uniq_pair.1 h.nd))
noncomputable def rdyB (c : List Int) (e : EvS) : Bool := decide (RdyE c e)
noncomputable def stlF : Nat → List Int → List (List Int × EvS) → List EvS → List EvS × List Int × List (List Int × EvS)
 | 0, c, H, out => (out, c, H)
 | n + 1, c, H, out => match (ordE (H.map (·.2)))[idxN (rdyB c) (ordE (H.map (·.2)))]? with
  | none => (out, c, H)
  | some e => stlF n (cntF c e) (delL H [e.rep, e.num]) (out ++ [e])
set_option maxHeartbeats 2000000 in
theorem dsettle_a (b : Nat) (vc : Value) (mb : Nat) (c : List Int) (H : List (List Int × EvS)) (h : HldOK c.length H) (hc : c.length ≤ 10) : CallA Tryz.prog 171 [pm b] [bufB b vc mb, clkR vc c, heldR mb H] fun r own => ∃ v, r = .ow v ∧ own = [arrR v 37 13 (stlF (H.length + 1) c H []).1 evC, bufB b vc mb, clkR vc (stlF (H.length + 1) c H []).2.1, heldR mb (stlF (H.length + 1) c H []).2.2] := by
 obtain ⟨res, hres⟩ : ∃ res, res = stlF (H.length + 1) c H [] := ⟨_, rfl⟩
 rw [← hres]
 have hH := h.len
 refine CallA.of pg ord171 Tryz.func171 rfl Tryz.ntmps171 Tryz.results171 rfl fun h0 G0 O0 => ?_
 repeat' (first|refine Sp.h ?_|refine Lk.r rfl ?_|refine Rf.mk rfl ?_|fail)
 refine CA.nilOwn 3 37 13 evC rfl fun v0 => ?_
 refine CA.loop (fun x : Nat × List Int × List (List Int × EvS) × List EvS × Value => ⟨[(0, pm b), (3, .ow x.2.2.2.2)], [arrR x.2.2.2.2 37 13 x.2.2.2.1 evC, bufB b vc mb, clkR vc x.2.1, heldR mb x.2.2.1]⟩)
  (fun x => HldOK c.length x.2.2.1 ∧ x.2.1.length = c.length ∧ x.2.2.1.length + 1 = x.1 ∧ x.2.2.2.1.length + x.2.2.1.length = H.length ∧ res = stlF x.1 x.2.1 x.2.2.1 x.2.2.2.1) (fun x => x.1) (H.length + 1, c, H, [], v0) xE ⟨h, rfl, rfl, by simp, hres⟩ ?_
 rintro ⟨n, d, K, out, v⟩ ⟨hK, hd, hn, hlen, hr⟩
 simp only at hK hd hn hlen hr
 simp only
 have hl := dlist_a b vc mb d K hK
 have hix := dindex_a b vc mb d (by omega) (ordE (K.map (·.2)))
 repeat' (first|refine Sp.h ?_|refine Lk.r rfl ?_|refine Rf.mk rfl ?_|fail)
 refine xW (hl) ?_
 rintro _ _ ⟨rfl, rfl⟩
 repeat' (first|refine Sp.h ?_|refine Lk.r rfl ?_|refine Rf.mk rfl ?_|fail)
 refine xW (hix) ?_
 rintro _ _ ⟨rfl, rfl⟩
 subst hn
 by_cases hi : idxN (rdyB d) (ordE (K.map (·.2))) < (ordE (K.map (·.2))).length
 ·have hI : idxI (fun e => decide (RdyE d e)) (ordE (K.map (·.2))) = (idxN (rdyB d) (ordE (K.map (·.2))) : Nat) := if_pos hi
  rw [hI]
  obtain ⟨e, he⟩ := get_of hi
  have hem : e ∈ K.map (·.2) := (ordE_perm _).mem_iff.2 (List.mem_of_getElem? he)
  obtain ⟨p, hp, rfl⟩ := List.mem_map.1 hem
  have hrp := hK.rep p hp
  obtain ⟨x, hx⟩ := get_of (l := d) (i := p.2.rep.toNat) (by omega)
  have hdv := ddeliver_a b vc mb d K p.2 x hrp.1 hx
  have hdl := delL_len (k := [p.2.rep, p.2.num]) ⟨p, hp, hK.key p hp⟩
  have hr2 : res = stlF K.length (cntF d p.2) (delL K [p.2.rep, p.2.num]) (out ++ [p.2]) := by
   rw [hr];simp only [stlF, he]
  repeat' (first|refine Sp.h ?_|refine Lk.r rfl ?_|refine Rf.mk rfl ?_|refine xB ?_|refine xI ?_|refine Ch.l ⟨rfl, rfl⟩ ?_|fail)
  refine xW (hdv) ?_
  rintro _ _ ⟨rfl, rfl⟩
  repeat' (first|refine Sp.h ?_|refine Lk.r rfl ?_|refine Rf.mk rfl ?_|refine xP ?_|(refine All.mk ?_;intro _)|refine xU ?_|refine xI ?_|refine Ce.r ?_|refine Ch.l ⟨rfl, rfl⟩ ?_|(apply Fk.r;focus repeat' first|infer_instance|constructor)|refine Rf.mk ⟨rfl, rfl⟩ ?_|refine Rf.mk ⟨rfl, rfl, rfl⟩ ?_|(apply Mp.lit;(focus repeat (first|exact MpL.nil|(apply MpL.cons;(focus rfl))|(apply MpL.inv;(focus repeat constructor);(focus infer_instance)))))|fail)
  refine PA.lp (K.length, cntF d p.2, delL K [p.2.rep, p.2.num], out ++ [p.2], _) xE ⟨⟨hK.del _, by simp only [cntF, List.length_set];exact hd, hdl, ?_, hr2⟩, ?_⟩
  ·simp only [List.length_append, List.length_cons, List.length_nil]
   omega
  ·simp only
   omega
 ·have hI : idxI (fun e => decide (RdyE d e)) (ordE (K.map (·.2))) = -1 := if_neg hi
  rw [hI]
  have hr2 : res = (out, d, K) := by
   rw [hr];simp only [stlF, List.getElem?_eq_none (Nat.le_of_not_lt hi)]
  rw [hr2]
  repeat' (first|refine Sp.h ?_|refine Lk.r rfl ?_|refine Rf.mk rfl ?_|refine xA ?_|refine xN ?_|fail)
  exact ⟨_, [arrR v 37 13 out evC, bufB b vc mb, clkR vc d, heldR mb K], .one (.same (.z)), _, rfl, rfl⟩
end Go.Proofs.YtmllihbhphnolaaGreat
namespace Go.Proofs.YtmllihbhphnolaaGreat
open Go Go.CF
set_option maxRecDepth 20000
noncomputable def addB (c : List Int) (H : List (List Int × EvS)) (e : EvS) : Int × List EvS × List Int × List (List Int × EvS) :=
 if ¬ FormedE e ∨ e.past.length ≠ c.length then (1, [], c, H)
 else if (lookL H [e.rep, e.num]).isSome = true ∨ HasC c e.rep e.num then (6, [], c, H)
 else if RdyE c e then (0, e :: (stlF ((delL H [e.rep, e.num]).length + 1) (cntF c e) (delL H [e.rep, e.num]) []).1, (stlF ((delL H [e.rep, e.num]).length + 1) (cntF c e) (delL H [e.rep, e.num]) []).2)
 else if 256 ≤ H.length then (8, [], c, H)
 else (0, [], c, updL H [e.rep, e.num] e)
theorem stlF_len : ∀ (n : Nat) (c : List Int) (H : List (List Int × EvS)) (out : List EvS), (stlF n c H out).1.length ≤ out.length + n
 | 0, _, _, _ => Nat.le_refl _
 | n + 1, c, H, out => by
  simp only [stlF]
  split
  ·exact Nat.le_add_right _ _
  ·have := stlF_len n (cntF c ‹_›) (delL H [(‹_› : EvS).rep, (‹_› : EvS).num]) (out ++ [‹_›])
   simp only [List.length_append, List.length_cons, List.length_nil] at this
   omega
theorem mpl_id (f : EvS → List AV) : ∀ l : List EvS, MpL f id l (l.map f)
 | [] => .nil
 | _ :: l => .cons rfl (mpl_id f l)
abbrev AddN (b : Nat) (vc : Value) (mb : Nat) (c : List Int) (H : List (List Int × EvS)) (k : Int) : AV → List Res → Prop := fun r own => r = .tup [nl0, it k] ∧ own = [bufB b vc mb, clkR vc c, heldR mb H]
theorem addN_x {b : Nat} {vc : Value} {mb : Nat} {c : List Int} {H : List (List Int × EvS)} {k : Int} {xs : List AV} {own : List Res} (h : CallA Tryz.prog 110 xs own (AddN b vc mb c H k)) :
  CallA Tryz.prog 110 xs own fun r own => r = .tup [evs [], it k] ∧ own = [bufB b vc mb, clkR vc c, heldR mb H] :=
 CallA.fxr h (by rintro _ _ ⟨rfl, rfl⟩;exact ⟨_, _, .tup (.kn (.k .nil)) .nil, rfl, rfl⟩)
set_option maxHeartbeats 8000000 in
theorem dadd_a (b : Nat) (vc : Value) (mb : Nat) (c : List Int) (H : List (List Int × EvS)) (e : EvS) (h : HldOK c.length H) (hc : c.length ≤ 10) : CallA Tryz.prog 110 [pm b, evA' e] [bufB b vc mb, clkR vc c, heldR mb H] fun r own => r = .tup [evs (addB c H e).2.1, it (addB c H e).1] ∧ own = [bufB b vc mb, clkR vc (addB c H e).2.2.1, heldR mb (addB c H e).2.2.2] := by
 have h1 := dname_p e
 have h2 := formed_p e
 have h3 := hasC_p c e.rep e.num
 have h4 := dready_p c (.map (some mb)) e
 have hH := h.len
 by_cases k1 : ¬ FormedE e ∨ e.past.length ≠ c.length
 ·have hr : addB c H e = (1, [], c, H) := if_pos k1
  rw [hr]
  refine addN_x ?_
  by_cases k0 : FormedE e
  ·have k2 : ¬ (e.past.length : Int) = (c.length : Int) := by
    rcases k1 with k1|k1
    ·exact absurd k0 k1
    ·omega
   cases hlk : lookL H [e.rep, e.num]
   all_goals refine CallA.of pg ord110 Tryz.func110 rfl Tryz.ntmps110 Tryz.results110 rfl fun h0 G0 O0 => ?_
   all_goals repeat' (first|refine Sp.h ?_|refine Lk.r rfl ?_|refine Rf.mk rfl ?_|refine xA ?_|refine xB ?_|refine OpK.r rfl ?_|(refine Im.mk ?_;intro _)|(refine All.mk ?_;intro _)|refine xU ?_|refine xT ?_|refine Ch.l ⟨rfl, rfl⟩ ?_|(apply SetAsk.r;focus repeat' constructor)|refine xN ?_|refine xK ?_|(apply Kf.mk;(focus kernel_rfl))|refine xM ?_|(apply Zx.agg;(focus rfl);(focus rfl);(focus repeat constructor))|(apply LkM.s;(focus first|assumption|rfl))|(apply LkM.n;(focus first|assumption|rfl))|refine xD ?_|exact trivial|apply RA'.both|(apply Cl.p (h1);(focus ((repeat' (first|exact Lend.nil|apply Lend.keep|fail));done)))|(apply Cl.p (h2);(focus ((repeat' (first|exact Lend.nil|apply Lend.keep|fail));done)))|(apply Cl.p (h2);(focus ((repeat' (first|exact Lend.nil|apply Lend.keep|fail));done)))|(apply Cl.lend (h3);(focus ((repeat' (first|exact Lend.nil|apply Lend.keep|fail));done)))|(apply Cl.lend (h4);(focus ((repeat' (first|exact Lend.nil|apply Lend.keep|fail));done)))|(apply Cl.lend (h4);(focus ((repeat' (first|exact Lend.nil|apply Lend.keep|fail));done))))
   all_goals exact ⟨_, [bufB b vc mb, clkR vc c, heldR mb H], .tup (.same (.same (.z))), rfl, rfl⟩
  ·cases hlk : lookL H [e.rep, e.num]
   all_goals refine CallA.of pg ord110 Tryz.func110 rfl Tryz.ntmps110 Tryz.results110 rfl fun h0 G0 O0 => ?_
   all_goals repeat' (first|refine Sp.h ?_|refine Lk.r rfl ?_|refine Rf.mk rfl ?_|refine xB ?_|refine OpK.r rfl ?_|(refine All.mk ?_;intro _)|refine xT ?_|refine Ch.l ⟨rfl, rfl⟩ ?_|(apply SetAsk.r;focus repeat' constructor)|refine xN ?_|refine xK ?_|(apply Kf.mk;(focus kernel_rfl))|refine xM ?_|(apply Zx.agg;(focus rfl);(focus rfl);(focus repeat constructor))|(apply LkM.s;(focus first|assumption|rfl))|(apply LkM.n;(focus first|assumption|rfl))|refine xD ?_|exact trivial|apply RA'.both|(apply Cl.p (h1);(focus ((repeat' (first|exact Lend.nil|apply Lend.keep|fail));done)))|(apply Cl.p (h2);(focus ((repeat' (first|exact Lend.nil|apply Lend.keep|fail));done)))|(apply Cl.p (h2);(focus ((repeat' (first|exact Lend.nil|apply Lend.keep|fail));done)))|(apply Cl.lend (h3);(focus ((repeat' (first|exact Lend.nil|apply Lend.keep|fail));done)))|(apply Cl.lend (h4);(focus ((repeat' (first|exact Lend.nil|apply Lend.keep|fail));done)))|(apply Cl.lend (h4);(focus ((repeat' (first|exact Lend.nil|apply Lend.keep|fail));done))))
   all_goals exact ⟨_, [bufB b vc mb, clkR vc c, heldR mb H], .tup (.same (.same (.z))), rfl, rfl⟩
 have k0 : FormedE e := Decidable.not_not.1 fun h9 => k1 (.inl h9)
 have k2 : e.past.length = c.length := Decidable.not_not.1 fun h9 => k1 (.inr h9)
 have k3 : (e.past.length : Int) = (c.length : Int) := by omega
 by_cases q1 : (lookL H [e.rep, e.num]).isSome = true ∨ HasC c e.rep e.num
 ·have hr : addB c H e = (6, [], c, H) := by rw [addB, if_neg k1, if_pos q1]
  rw [hr]
  refine addN_x ?_
  cases hlk : lookL H [e.rep, e.num] with
  | none =>
   have q2 : HasC c e.rep e.num := by
    rcases q1 with q1|q1
    ·rw [hlk] at q1;cases q1
    ·exact q1
   refine CallA.of pg ord110 Tryz.func110 rfl Tryz.ntmps110 Tryz.results110 rfl fun h0 G0 O0 => ?_
   repeat' (first|refine Sp.h ?_|refine Lk.r rfl ?_|refine Rf.mk rfl ?_|refine xA ?_|refine OpK.r rfl ?_|(refine Im.mk ?_;intro _)|(refine All.mk ?_;intro _)|refine xU ?_|refine xT ?_|refine Ch.l ⟨rfl, rfl⟩ ?_|(apply SetAsk.r;focus repeat' constructor)|refine xN ?_|refine xK ?_|(apply Kf.mk;(focus kernel_rfl))|refine xM ?_|(apply Zx.agg;(focus rfl);(focus rfl);(focus repeat constructor))|(apply LkM.n;(focus first|assumption|rfl))|refine xD ?_|exact trivial|apply RA'.both|(apply Cl.p (h1);(focus ((repeat' (first|exact Lend.nil|apply Lend.keep|(apply Lend.lend;(focus repeat constructor);(focus first|omega|(simp;omega)))|fail));done)))|(apply Cl.p (h2);(focus ((repeat' (first|exact Lend.nil|apply Lend.keep|(apply Lend.lend;(focus repeat constructor);(focus first|omega|(simp;omega)))|fail));done)))|(apply Cl.p (h2);(focus ((repeat' (first|exact Lend.nil|apply Lend.keep|(apply Lend.lend;(focus repeat constructor);(focus first|omega|(simp;omega)))|fail));done)))|(apply Cl.lend (h3);(focus ((repeat' (first|exact Lend.nil|apply Lend.keep|(apply Lend.lend;(focus repeat constructor);(focus first|omega|(simp;omega)))|fail));done)))|(apply Cl.lend (h4);(focus ((repeat' (first|exact Lend.nil|apply Lend.keep|(apply Lend.lend;(focus repeat constructor);(focus first|omega|(simp;omega)))|fail));done)))|(apply Cl.lend (h4);(focus ((repeat' (first|exact Lend.nil|apply Lend.keep|(apply Lend.lend;(focus repeat constructor);(focus first|omega|(simp;omega)))|fail));done))))
   all_goals exact ⟨_, [bufB b vc mb, clkR vc c, heldR mb H], .tup (.same (.same (.z))), rfl, rfl⟩
  | some v =>
   refine CallA.of pg ord110 Tryz.func110 rfl Tryz.ntmps110 Tryz.results110 rfl fun h0 G0 O0 => ?_
   repeat' (first|refine Sp.h ?_|refine Lk.r rfl ?_|refine Rf.mk rfl ?_|refine xA ?_|refine OpK.r rfl ?_|(refine Im.mk ?_;intro _)|(refine All.mk ?_;intro _)|refine xU ?_|refine xT ?_|refine Ch.l ⟨rfl, rfl⟩ ?_|(apply SetAsk.r;focus repeat' constructor)|refine xN ?_|refine xK ?_|(apply Kf.mk;(focus kernel_rfl))|refine xM ?_|(apply LkM.s;(focus first|assumption|rfl))|refine xD ?_|exact trivial|apply RA'.both|(apply Cl.p (h1);(focus ((repeat' (first|exact Lend.nil|apply Lend.keep|fail));done)))|(apply Cl.p (h2);(focus ((repeat' (first|exact Lend.nil|apply Lend.keep|fail));done)))|(apply Cl.p (h2);(focus ((repeat' (first|exact Lend.nil|apply Lend.keep|fail));done)))|(apply Cl.lend (h3);(focus ((repeat' (first|exact Lend.nil|apply Lend.keep|fail));done)))|(apply Cl.lend (h4);(focus ((repeat' (first|exact Lend.nil|apply Lend.keep|fail));done)))|(apply Cl.lend (h4);(focus ((repeat' (first|exact Lend.nil|apply Lend.keep|fail));done))))
   all_goals exact ⟨_, [bufB b vc mb, clkR vc c, heldR mb H], .tup (.same (.same (.z))), rfl, rfl⟩
 have q2 : ¬ HasC c e.rep e.num := fun h9 => q1 (.inr h9)
 have hlk : lookL H [e.rep, e.num] = none := by
  cases h9 : lookL H [e.rep, e.num] with
  | none => rfl
  | some v => exact absurd (.inl (by rw [h9];rfl)) q1
 have hcl := dclone_p e (by have := k0.1.2;omega)
 by_cases q3 : RdyE c e
 ·obtain ⟨S, hS⟩ : ∃ S, S = stlF ((delL H [e.rep, e.num]).length + 1) (cntF c e) (delL H [e.rep, e.num]) [] := ⟨_, rfl⟩
  have hr : addB c H e = (0, e :: S.1, S.2) := by rw [addB, if_neg k1, if_neg q1, if_pos q3, hS]
  rw [hr]
  obtain ⟨y, hy, _⟩ := k0.2.2.1
  obtain ⟨x, hx⟩ := get_of (l := c) (i := e.rep.toNat) (by rw [← k2];exact (List.getElem?_eq_some_iff.1 hy).1)
  have hd := ddeliver_a b vc mb c H e x k0.2.1 hx
  have hcl2 : (cntF c e).length = c.length := by simp only [cntF, List.length_set]
  have hs := dsettle_a b vc mb (cntF c e) (delL H [e.rep, e.num]) (by rw [hcl2];exact h.del _) (by omega)
  rw [← hS] at hs
  have hSl : S.1.length ≤ 1000 := by
   have h9 := stlF_len ((delL H [e.rep, e.num]).length + 1) (cntF c e) (delL H [e.rep, e.num]) []
   rw [← hS] at h9
   have h8 := (delL_sub [e.rep, e.num] H).length_le
   simp only [List.length_nil] at h9
   omega
  refine CallA.fxr (K := fun r own => ∃ v, r = .tup [.ow v, it 0] ∧ own = [arrR v 37 13 (e :: S.1) evC, bufB b vc mb, clkR vc S.2.1, heldR mb S.2.2]) ?_ (by rintro _ _ ⟨v, rfl, rfl⟩;exact ⟨_, _, .tup (.s1 .here (by simp;omega) (.k .nil)) .nil, rfl, rfl⟩)
  refine CallA.of pg ord110 Tryz.func110 rfl Tryz.ntmps110 Tryz.results110 rfl fun h0 G0 O0 => ?_
  repeat' (first|refine Sp.h ?_|refine Lk.r rfl ?_|refine Rf.mk rfl ?_|refine xA ?_|refine xB ?_|refine OpK.r rfl ?_|(refine Im.mk ?_;intro _)|(refine All.mk ?_;intro _)|refine xU ?_|refine xT ?_|refine Ch.l ⟨rfl, rfl⟩ ?_|(apply SetAsk.r;focus repeat' constructor)|refine xN ?_|refine xK ?_|(apply Kf.mk;(focus kernel_rfl))|refine xM ?_|(apply Zx.agg;(focus rfl);(focus rfl);(focus repeat constructor))|(apply LkM.n;(focus first|assumption|rfl))|refine xD ?_|exact trivial|apply RA'.both|(apply Cl.p (h1);(focus ((repeat' (first|exact Lend.nil|apply Lend.keep|(apply Lend.lend;(focus repeat constructor);(focus first|omega|(simp;omega)))|(apply Lend.cell;(focus repeat constructor))|fail));done)))|(apply Cl.p (h2);(focus ((repeat' (first|exact Lend.nil|apply Lend.keep|(apply Lend.lend;(focus repeat constructor);(focus first|omega|(simp;omega)))|(apply Lend.cell;(focus repeat constructor))|fail));done)))|(apply Cl.p (hcl);(focus ((repeat' (first|exact Lend.nil|apply Lend.keep|(apply Lend.lend;(focus repeat constructor);(focus first|omega|(simp;omega)))|(apply Lend.cell;(focus repeat constructor))|fail));done)))|(apply Cl.lend (h3);(focus ((repeat' (first|exact Lend.nil|apply Lend.keep|(apply Lend.lend;(focus repeat constructor);(focus first|omega|(simp;omega)))|(apply Lend.cell;(focus repeat constructor))|fail));done)))|(apply Cl.lend (h4);(focus ((repeat' (first|exact Lend.nil|apply Lend.keep|(apply Lend.lend;(focus repeat constructor);(focus first|omega|(simp;omega)))|(apply Lend.cell;(focus repeat constructor))|fail));done)))|(apply Cl.lend (h4);(focus ((repeat' (first|exact Lend.nil|apply Lend.keep|(apply Lend.lend;(focus repeat constructor);(focus first|omega|(simp;omega)))|(apply Lend.cell;(focus repeat constructor))|fail));done))))
  all_goals refine xW (hd) ?_
  all_goals rintro _ _ ⟨rfl, rfl⟩
  all_goals repeat' (first|refine Sp.h ?_|refine Lk.r rfl ?_|refine Rf.mk rfl ?_|(refine All.mk ?_;intro _)|refine xT ?_|refine Ch.l ⟨rfl, rfl⟩ ?_|(apply Fk.r;focus repeat' first|infer_instance|constructor)|refine Rf.mk ⟨rfl, rfl, rfl⟩ ?_|(apply Cl.p (hcl);(focus repeat' (first|exact Lend.nil|apply Lend.keep|fail))))
  all_goals refine xW (hs) ?_
  all_goals rintro _ _ ⟨v, rfl, rfl⟩
  all_goals repeat' (first|refine Sp.h ?_|refine Lk.r rfl ?_|refine Rf.mk rfl ?_|refine xU ?_|refine Ce.r ?_|refine Rf.mk ⟨rfl, rfl⟩ ?_|(apply Mp.lit;(focus repeat (first|exact MpL.nil|(apply MpL.cons;(focus rfl))|(apply MpL.inv;(focus repeat constructor);(focus infer_instance)))))|fail)
  any_goals exact mpl_id evC S.1
  all_goals refine ⟨by rw [List.length_map];simp [chunk];omega, ?_⟩
  all_goals (repeat' (first|(show CA _ _ Code.ret _ _;apply Stopped.out)|refine Sp.h ?_|refine Lk.r rfl ?_|(refine All.mk ?_;intro _)|fail));any_goals apply Stopped.mk
  all_goals refine CA.retype (by repeat constructor) (e :: S.1) evC (by simp [chunk];rfl) ?_
  all_goals repeat' (first|refine Sp.h ?_|refine Lk.r rfl ?_|refine xN ?_|fail)
  all_goals exact ⟨_, [arrR _ 37 13 (e :: S.1) evC, bufB b vc mb, clkR vc S.2.1, heldR mb S.2.2], .tup (.same (.same (.z))), _, rfl, rfl⟩
 by_cases q4 : 256 ≤ H.length
 ·have hr : addB c H e = (8, [], c, H) := by rw [addB, if_neg k1, if_neg q1, if_neg q3, if_pos q4]
  rw [hr]
  refine addN_x ?_
  refine CallA.of pg ord110 Tryz.func110 rfl Tryz.ntmps110 Tryz.results110 rfl fun h0 G0 O0 => ?_
  repeat' (first|refine Sp.h ?_|refine Lk.r rfl ?_|refine Rf.mk rfl ?_|refine xA ?_|refine xB ?_|refine OpK.r rfl ?_|(refine Im.mk ?_;intro _)|(refine All.mk ?_;intro _)|refine xU ?_|refine xT ?_|refine Ch.l ⟨rfl, rfl⟩ ?_|(apply SetAsk.r;focus repeat' constructor)|refine xN ?_|refine xK ?_|(apply Kf.mk;(focus kernel_rfl))|refine xM ?_|(apply Zx.agg;(focus rfl);(focus rfl);(focus repeat constructor))|(apply LkM.n;(focus first|assumption|rfl))|refine xD ?_|exact trivial|apply RA'.both|(apply Cl.p (h1);(focus ((repeat' (first|exact Lend.nil|apply Lend.keep|(apply Lend.lend;(focus repeat constructor);(focus first|omega|(simp;omega)))|(apply Lend.cell;(focus repeat constructor))|fail));done)))|(apply Cl.p (h2);(focus ((repeat' (first|exact Lend.nil|apply Lend.keep|(apply Lend.lend;(focus repeat constructor);(focus first|omega|(simp;omega)))|(apply Lend.cell;(focus repeat constructor))|fail));done)))|(apply Cl.p (h2);(focus ((repeat' (first|exact Lend.nil|apply Lend.keep|(apply Lend.lend;(focus repeat constructor);(focus first|omega|(simp;omega)))|(apply Lend.cell;(focus repeat constructor))|fail));done)))|(apply Cl.lend (h3);(focus ((repeat' (first|exact Lend.nil|apply Lend.keep|(apply Lend.lend;(focus repeat constructor);(focus first|omega|(simp;omega)))|(apply Lend.cell;(focus repeat constructor))|fail));done)))|(apply Cl.lend (h4);(focus ((repeat' (first|exact Lend.nil|apply Lend.keep|(apply Lend.lend;(focus repeat constructor);(focus first|omega|(simp;omega)))|(apply Lend.cell;(focus repeat constructor))|fail));done)))|(apply Cl.lend (h4);(focus ((repeat' (first|exact Lend.nil|apply Lend.keep|(apply Lend.lend;(focus repeat constructor);(focus first|omega|(simp;omega)))|(apply Lend.cell;(focus repeat constructor))|fail));done))))
  all_goals exact ⟨_, [bufB b vc mb, clkR vc c, heldR mb H], .tup (.same (.same (.z))), rfl, rfl⟩
 ·have hr : addB c H e = (0, [], c, updL H [e.rep, e.num] e) := by rw [addB, if_neg k1, if_neg q1, if_neg q3, if_neg q4]
  rw [hr]
  refine addN_x ?_
  refine CallA.of pg ord110 Tryz.func110 rfl Tryz.ntmps110 Tryz.results110 rfl fun h0 G0 O0 => ?_
  repeat' (first|refine Sp.h ?_|refine Lk.r rfl ?_|refine Rf.mk rfl ?_|refine xA ?_|refine xB ?_|refine OpK.r rfl ?_|(refine Im.mk ?_;intro _)|(refine All.mk ?_;intro _)|refine xU ?_|refine xT ?_|refine Ch.l ⟨rfl, rfl⟩ ?_|(apply SetAsk.r;focus repeat' constructor)|refine xN ?_|refine xK ?_|(apply Kf.mk;(focus kernel_rfl))|refine xM ?_|refine UpV.r rfl ?_|(apply Zx.agg;(focus rfl);(focus rfl);(focus repeat constructor))|(apply LkM.n;(focus first|assumption|rfl))|refine xD ?_|exact trivial|apply RA'.both|(apply Cl.p (h1);(focus ((repeat' (first|exact Lend.nil|apply Lend.keep|(apply Lend.lend;(focus repeat constructor);(focus first|omega|(simp;omega)))|(apply Lend.cell;(focus repeat constructor))|fail));done)))|(apply Cl.p (h2);(focus ((repeat' (first|exact Lend.nil|apply Lend.keep|(apply Lend.lend;(focus repeat constructor);(focus first|omega|(simp;omega)))|(apply Lend.cell;(focus repeat constructor))|fail));done)))|(apply Cl.p (hcl);(focus ((repeat' (first|exact Lend.nil|apply Lend.keep|(apply Lend.lend;(focus repeat constructor);(focus first|omega|(simp;omega)))|(apply Lend.cell;(focus repeat constructor))|fail));done)))|(apply Cl.lend (h3);(focus ((repeat' (first|exact Lend.nil|apply Lend.keep|(apply Lend.lend;(focus repeat constructor);(focus first|omega|(simp;omega)))|(apply Lend.cell;(focus repeat constructor))|fail));done)))|(apply Cl.lend (h4);(focus ((repeat' (first|exact Lend.nil|apply Lend.keep|(apply Lend.lend;(focus repeat constructor);(focus first|omega|(simp;omega)))|(apply Lend.cell;(focus repeat constructor))|fail));done)))|(apply Cl.lend (h4);(focus ((repeat' (first|exact Lend.nil|apply Lend.keep|(apply Lend.lend;(focus repeat constructor);(focus first|omega|(simp;omega)))|(apply Lend.cell;(focus repeat constructor))|fail));done))))
  all_goals exact ⟨_, [bufB b vc mb, clkR vc c, heldR mb (updL H [e.rep, e.num] e)], .tup (.same (.same (.z))), rfl, rfl⟩
end Go.Proofs.YtmllihbhphnolaaGreat
namespace Go.Proofs.YtmllihbhphnolaaGreat
open Go Go.CF
set_option maxRecDepth 20000
theorem deliver_bad {m : ModS} {evl : List EvS} {w : NowS} {e : EvS} (h : ¬ (deliverF m evl w e).1 = 0) : (deliverF m evl w e).2 = w := by
 unfold deliverF at h ⊢
 repeat' split
 all_goals first
  | rfl
  | (exfalso;simp_all;done)
end Go.Proofs.YtmllihbhphnolaaGreat
namespace Go.Proofs.YtmllihbhphnolaaGreat
open Go Go.CF
set_option maxRecDepth 20000
theorem cntF_len (c : List Int) (e : EvS) : (cntF c e).length = c.length := by simp only [cntF, List.length_set]
theorem stlF_ind {N : Nat} (P : List Int → List (List Int × EvS) → List EvS → Prop)
  (hs : ∀ c H out p, HldOK N H → P c H out → p ∈ H → RdyE c p.2 → P (cntF c p.2) (delL H [p.2.rep, p.2.num]) (out ++ [p.2])) :
  ∀ (n : Nat) (c : List Int) (H : List (List Int × EvS)) (out : List EvS), HldOK N H → P c H out → HldOK N (stlF n c H out).2.2 ∧ P (stlF n c H out).2.1 (stlF n c H out).2.2 (stlF n c H out).1
 | 0, c, H, out, hH, h => ⟨hH, h⟩
 | n + 1, c, H, out, hH, h => by
  simp only [stlF]
  cases he : (ordE (H.map (·.2)))[idxN (rdyB c) (ordE (H.map (·.2)))]? with
  | none => exact ⟨hH, h⟩
  | some e =>
   obtain ⟨x, h1, h2, _⟩ := idxN_at (List.getElem?_eq_some_iff.1 he).1
   rw [he] at h1;cases h1
   obtain ⟨p, hp, rfl⟩ := List.mem_map.1 (ordE_mem.1 (List.mem_of_getElem? he))
   exact stlF_ind P hs n _ _ _ (hH.del _) (hs c H out p hH h hp (of_decide_eq_true h2))
theorem stlF_hld {N : Nat} {H : List (List Int × EvS)} (h : HldOK N H) (n : Nat) (c : List Int) (out : List EvS) : HldOK N (stlF n c H out).2.2 :=
 (stlF_ind (fun _ _ _ => True) (fun _ _ _ _ _ _ _ _ => trivial) n c H out h trivial).1
theorem stlF_clk {N : Nat} {H : List (List Int × EvS)} (h : HldOK N H) (n : Nat) (c : List Int) (out : List EvS) : (stlF n c H out).2.1.length = c.length :=
 (stlF_ind (fun d _ _ => d.length = c.length) (fun _ _ _ _ _ h1 _ _ => by rw [cntF_len];exact h1) n c H out h rfl).2
theorem stlF_sum {N : Nat} {H : List (List Int × EvS)} (h : HldOK N H) (n : Nat) (c : List Int) (out : List EvS) : (stlF n c H out).1.length + (stlF n c H out).2.2.length = out.length + H.length :=
 (stlF_ind (fun _ K o => o.length + K.length = out.length + H.length) (fun d K o p hK h1 hp _ => by
  have := delL_len (k := [p.2.rep, p.2.num]) ⟨p, hp, hK.key p hp⟩
  rw [List.length_append];simp only [List.length_cons, List.length_nil];omega) n c H out h rfl).2
theorem stlF_mem {N : Nat} {H : List (List Int × EvS)} (h : HldOK N H) (n : Nat) (c : List Int) (out : List EvS) : (∀ e ∈ (stlF n c H out).1, e ∈ out ∨ ∃ p ∈ H, p.2 = e) ∧ ∀ p ∈ (stlF n c H out).2.2, p ∈ H :=
 (stlF_ind (fun _ K o => (∀ e ∈ o, e ∈ out ∨ ∃ p ∈ H, p.2 = e) ∧ ∀ p ∈ K, p ∈ H) (fun d K o p hK h1 hp _ => ⟨fun e he => by
  rcases List.mem_append.1 he with he|he
  ·exact h1.1 e he
  ·rw [List.mem_singleton.1 he];exact .inr ⟨p, h1.2 p hp, rfl⟩, fun q hq => h1.2 q ((delL_sub _ _).mem hq)⟩) n c H out h ⟨fun e he => .inl he, fun p hp => hp⟩).2
/-! ### Adding -/
structure AddOK (N : Nat) (H : List (List Int × EvS)) (e : EvS) (r : Int × List EvS × List Int × List (List Int × EvS)) : Prop where
 clk : r.2.2.1.length = N
 hld : HldOK N r.2.2.2
 sum : r.2.1.length + r.2.2.2.length ≤ H.length + 1
 out : ∀ x ∈ r.2.1, x = e ∨ ∃ p ∈ H, p.2 = x
 mem : ∀ p ∈ r.2.2.2, p ∈ H ∨ p.2 = e
theorem addOK_id {N : Nat} {c : List Int} {H : List (List Int × EvS)} (e : EvS) (k : Int) (h : HldOK N H) (hc : c.length = N) : AddOK N H e (k, [], c, H) :=
 ⟨hc, h, by simp, fun x hx => by simp at hx, fun p hp => .inl hp⟩
theorem rep_rng {e : EvS} (h : FormedE e) : 0 ≤ e.rep ∧ e.rep < (e.past.length : Int) := by
 obtain ⟨_, f2, ⟨x, f3, _⟩, _⟩ := h
 have := (List.getElem?_eq_some_iff.1 f3).1
 exact ⟨f2, by omega⟩
theorem HldOK.ins {N : Nat} {H : List (List Int × EvS)} (h : HldOK N H) {e : EvS} (hf : FormedE e) (hl : e.past.length = N) (hn : lookL H [e.rep, e.num] = none) (hlen : H.length < 256) : HldOK N (updL H [e.rep, e.num] e) := by
 rw [updL_none _ _ _ hn]
 have hr := rep_rng hf
 have hne : ∀ p ∈ H, nm p.2 ≠ nm e := fun p hp h9 => by
  have h8 := h.key p hp
  unfold lookL at hn
  rw [Option.map_eq_none_iff, List.find?_eq_none] at hn
  exact hn p hp (by rw [h8];exact decide_eq_true h9)
 have hall : ∀ p ∈ H ++ [([e.rep, e.num], e)], p ∈ H ∨ p = ([e.rep, e.num], e) := fun p hp => by
  rcases List.mem_append.1 hp with hp|hp
  ·exact .inl hp
  ·exact .inr (List.mem_singleton.1 hp)
 refine ⟨fun p hp => ?_, fun p hp => ?_, fun p hp => ?_, by simp;omega, ?_⟩
 ·rcases hall p hp with hp|rfl
  ·exact h.rep p hp
  ·exact ⟨hr.1, by rw [← hl];exact hr.2⟩
 ·rcases hall p hp with hp|rfl
  ·exact h.key p hp
  ·rfl
 ·rcases hall p hp with hp|rfl
  ·exact h.fm p hp
  ·exact hf.1.2.2
 ·rw [List.map_append]
  refine uniq_pair.2 (List.pairwise_append.2 ⟨uniq_pair.1 h.nd, by simp, fun a ha b hb => ?_⟩)
  obtain ⟨p, hp, rfl⟩ := List.mem_map.1 ha
  rw [List.map_singleton, List.mem_singleton] at hb
  subst hb
  exact hne p hp
theorem addB_ok {N : Nat} {c : List Int} {H : List (List Int × EvS)} (e : EvS) (h : HldOK N H) (hc : c.length = N) : AddOK N H e (addB c H e) := by
 unfold addB
 by_cases k1 : ¬ FormedE e ∨ e.past.length ≠ c.length
 ·rw [if_pos k1];exact addOK_id e _ h hc
 rw [if_neg k1]
 have k0 : FormedE e := Decidable.not_not.1 fun h9 => k1 (.inl h9)
 have k2 : e.past.length = c.length := Decidable.not_not.1 fun h9 => k1 (.inr h9)
 by_cases q1 : (lookL H [e.rep, e.num]).isSome = true ∨ HasC c e.rep e.num
 ·rw [if_pos q1];exact addOK_id e _ h hc
 rw [if_neg q1]
 have hlk : lookL H [e.rep, e.num] = none := by
  cases h9 : lookL H [e.rep, e.num] with
  | none => rfl
  | some v => exact absurd (.inl (by rw [h9];rfl)) q1
 by_cases q3 : RdyE c e
 ·rw [if_pos q3]
  have hd := h.del [e.rep, e.num]
  have h2 := stlF_sum hd ((delL H [e.rep, e.num]).length + 1) (cntF c e) []
  have h3 := stlF_mem hd ((delL H [e.rep, e.num]).length + 1) (cntF c e) []
  have h4 := (delL_sub [e.rep, e.num] H).length_le
  refine ⟨by rw [stlF_clk hd, cntF_len];exact hc, stlF_hld hd _ _ _, ?_, fun x hx => ?_, fun p hp => .inl ((delL_sub _ _).mem (h3.2 p hp))⟩
  ·simp only [List.length_cons, List.length_nil] at h2 ⊢;omega
  ·rcases List.mem_cons.1 hx with rfl|hx
   ·exact .inl rfl
   ·rcases h3.1 x hx with hx|⟨p, hp, rfl⟩
    ·cases hx
    ·exact .inr ⟨p, (delL_sub _ _).mem hp, rfl⟩
 rw [if_neg q3]
 by_cases q4 : 256 ≤ H.length
 ·rw [if_pos q4];exact addOK_id e _ h hc
 rw [if_neg q4]
 refine ⟨hc, h.ins k0 (by omega) hlk (by omega), ?_, fun x hx => by simp at hx, fun p hp => ?_⟩
 ·rw [updL_none _ _ _ hlk];simp
 ·rw [updL_none _ _ _ hlk] at hp
  rcases List.mem_append.1 hp with hp|hp
  ·exact .inl hp
  ·rw [List.mem_singleton.1 hp];exact .inr rfl
/-! ### Peers -/
structure PrS where
 s : StoS
 c : List Int
 H : List (List Int × EvS)
 err : Int
noncomputable def dlvF (m : ModS) : List EvS → StoS → List EvS → Int × StoS × List EvS
 | [], s, out => (0, s, out)
 | x :: xs, s, out => if (deliverF m s.evs s.now x).1 = 0 then dlvF m xs ⟨s.base, s.evs ++ [x], (deliverF m s.evs s.now x).2⟩ (out ++ [x]) else ((deliverF m s.evs s.now x).1, s, out)
noncomputable def takF (m : ModS) : List EvS → PrS → List EvS → Int × PrS × List EvS
 | [], p, out => (0, p, out)
 | e :: l, p, out => if ¬ EvV m (p.s.now.clock.length : Nat) e then (1, p, out) else
  if (dlvF m (addB p.c p.H e).2.1 p.s out).1 = 0 then takF m l ⟨(dlvF m (addB p.c p.H e).2.1 p.s out).2.1, (addB p.c p.H e).2.2.1, (addB p.c p.H e).2.2.2, p.err⟩ (dlvF m (addB p.c p.H e).2.1 p.s out).2.2
  else ((dlvF m (addB p.c p.H e).2.1 p.s out).1, ⟨(dlvF m (addB p.c p.H e).2.1 p.s out).2.1, (addB p.c p.H e).2.2.1, (addB p.c p.H e).2.2.2, (dlvF m (addB p.c p.H e).2.1 p.s out).1⟩, (dlvF m (addB p.c p.H e).2.1 p.s out).2.2)
noncomputable def takeF (m : ModS) (l : List EvS) (p : PrS) : Int × PrS × List EvS := if p.err ≠ 0 then (9, p, []) else takF m l p []
structure PrOK (m : ModS) (N B : Nat) (p : PrS) : Prop where
 now : NowOK m p.s.now
 n : p.s.now.clock.length = N
 c : p.c.length = N
 hld : HldOK N p.H
 sz : p.s.evs.length + p.H.length ≤ B
 pl : p.s.now.places.length + p.H.length ≤ B
theorem deliver_len {m : ModS} {evl : List EvS} {w : NowS} {e : EvS} (h : (deliverF m evl w e).1 = 0) : (deliverF m evl w e).2.clock.length = w.clock.length ∧ (deliverF m evl w e).2.places = plE w.places e := by
 unfold deliverF at h ⊢
 repeat' split
 all_goals first
  | (exfalso;simp_all;done)
  | exact ⟨cntF_len _ _, rfl⟩
structure StK (m : ModS) (N B : Nat) (s : StoS) (k : Nat) : Prop where
 now : NowOK m s.now
 n : s.now.clock.length = N
 sz : s.evs.length + k ≤ B
 pl : s.now.places.length + k ≤ B
theorem StK.next {m : ModS} {N B k : Nat} {s : StoS} {x : EvS} (h : StK m N B s (k + 1)) (hB : B ≤ 100000) (hd : (deliverF m s.evs s.now x).1 = 0) : StK m N B ⟨s.base, s.evs ++ [x], (deliverF m s.evs s.now x).2⟩ k := by
 have h1 := h.sz;have h2 := h.pl
 have h3 := deliver_len hd
 have h4 := (plE_srt (e := x) h.now.pls).2
 refine ⟨now_deliver h.now (by omega) hd, by simp only;rw [h3.1];exact h.n, by simp;omega, ?_⟩
 simp only [h3.2]
 omega
theorem StK.mono {m : ModS} {N B k j : Nat} {s : StoS} (h : StK m N B s k) (hj : j ≤ k) : StK m N B s j := ⟨h.now, h.n, Nat.le_trans (Nat.add_le_add_left hj _) h.sz, Nat.le_trans (Nat.add_le_add_left hj _) h.pl⟩
theorem dlvF_len (m : ModS) : ∀ (X : List EvS) (s : StoS) (out : List EvS), (dlvF m X s out).2.2.length ≤ out.length + X.length
 | [], s, out => by simp [dlvF]
 | x :: X, s, out => by
  simp only [dlvF]
  split
  ·have := dlvF_len m X ⟨s.base, s.evs ++ [x], (deliverF m s.evs s.now x).2⟩ (out ++ [x])
   simp only [List.length_append, List.length_cons, List.length_nil] at this ⊢
   omega
  ·simp
theorem PrOK.add {m : ModS} {N B : Nat} {p : PrS} (h : PrOK m N B p) (e : EvS) : AddOK N p.H e (addB p.c p.H e) ∧ StK m N (B + 1) p.s ((addB p.c p.H e).2.1.length + (addB p.c p.H e).2.2.2.length) := by
 have ha := addB_ok e h.hld h.c
 have h1 := h.sz;have h2 := h.pl;have h3 := ha.sum
 exact ⟨ha, h.now, h.n, by omega, by omega⟩
theorem PrOK.of {m : ModS} {N B : Nat} {s : StoS} {c : List Int} {H : List (List Int × EvS)} {k : Int} (h : StK m N B s H.length) (hc : c.length = N) (hH : HldOK N H) : PrOK m N B ⟨s, c, H, k⟩ := ⟨h.now, h.n, hc, hH, h.sz, h.pl⟩
theorem takF_len {m : ModS} {N : Nat} : ∀ (l : List EvS) (p : PrS) (out : List EvS), HldOK N p.H → p.c.length = N → (takF m l p out).2.2.length ≤ out.length + p.H.length + l.length
 | [], p, out, h, hc => by simp only [takF, List.length_nil];omega
 | e :: l, p, out, h, hc => by
  have ha := addB_ok e h hc
  have h1 := ha.sum
  have h2 := dlvF_len m (addB p.c p.H e).2.1 p.s out
  simp only [takF, List.length_cons]
  split
  ·simp only;omega
  ·split
   ·have := takF_len (m := m) l ⟨(dlvF m (addB p.c p.H e).2.1 p.s out).2.1, (addB p.c p.H e).2.2.1, (addB p.c p.H e).2.2.2, p.err⟩ (dlvF m (addB p.c p.H e).2.1 p.s out).2.2 ha.hld ha.clk
    simp only at this
    omega
   ·simp only;omega
abbrev prR (pb sp bb mb : Nat) (m : ModS) (v vc : Value) (p : PrS) : List Res := [blkR pb 185 [pm sp, pm bb, it p.err], stoR sp m p.s.base v p.s.now, arrR v 37 13 p.s.evs evC, bufB bb vc mb, clkR vc p.c, heldR mb p.H]
end Go.Proofs.YtmllihbhphnolaaGreat
namespace Go.Proofs.YtmllihbhphnolaaGreat
open Go Go.CF
set_option maxRecDepth 20000
theorem dheld_a (b : Nat) (vc : Value) (mb : Nat) (c : List Int) (H : List (List Int × EvS)) {N : Nat} (h : HldOK N H) : CallA Tryz.prog 116 [pm b] [bufB b vc mb, clkR vc c, heldR mb H] fun r own => r = evs (ordE (H.map (·.2))) ∧ own = [bufB b vc mb, clkR vc c, heldR mb H] := by
 have h1 := dlist_a b vc mb c H h
 refine CallA.of pg ord116 Tryz.func116 rfl Tryz.ntmps116 Tryz.results116 rfl fun h0 G0 O0 => ?_
 repeat' (first|refine Sp.h ?_|refine Lk.r rfl ?_|refine Rf.mk rfl ?_|fail)
 refine xW (h1) ?_
 rintro _ _ ⟨rfl, rfl⟩
 repeat' (first|refine Sp.h ?_|refine Lk.r rfl ?_|refine xN ?_|fail)
 exact ⟨_, [bufB b vc mb, clkR vc c, heldR mb H], .one (.same (.z)), rfl, rfl⟩
theorem dnew_a (c : List Int) (h : ValC c) : CallA Tryz.prog 101 [ints c] [] fun r own => ∃ bb vc mb, r = .tup [pm bb, it 0] ∧ own = [bufB bb vc mb, clkR vc c, heldR mb []] := by
 have h1 := validC_p c
 rw [decide_eq_true h] at h1
 have h2 := clone_o c (by have := h.2.2;omega)
 refine CallA.of pg ord101 Tryz.func101 rfl Tryz.ntmps101 Tryz.results101 rfl fun h0 G0 O0 => ?_
 repeat' (first|refine Sp.h ?_|refine Lk.r rfl ?_|refine Rf.mk rfl ?_|refine xA ?_|(apply Cl.p (h1);(focus repeat' (first|exact Lend.nil|apply Lend.keep|fail))))
 (refine Cl.use (h2) (by repeat' (first|exact Lend.nil|apply Lend.keep|fail)) .nil rfl ?_;rintro _ _ ⟨_, rfl, rfl⟩)
 repeat' (first|refine Sp.h ?_|refine Lk.r rfl ?_|refine Rf.mk rfl ?_|fail)
 refine MkM.r evA' ?_
 refine ⟨fun M => ?_⟩
 repeat' (first|refine Sp.h ?_|refine Lk.r rfl ?_|refine Rf.mk rfl ?_|(refine All.mk ?_;intro _)|(apply Fk.r;focus repeat' first|infer_instance|constructor)|refine xN ?_|fail)
 exact ⟨_, [bufB _ _ M, clkR _ c, heldR M []], .tup (.same (.same (.z))), _, _, _, rfl, rfl⟩
set_option maxHeartbeats 8000000 in
theorem take_a (pb sp bb mb : Nat) (m : ModS) (v vc : Value) (N B : Nat) (p : PrS) (l : List EvS) (hm : MOK m) (h : PrOK m N B p) (hN : N ≤ 5) (hB : B + l.length ≤ 90000) :
  CallA Tryz.prog 39 [pm pb, evs l] (prR pb sp bb mb m v vc p) fun r own => r = .tup [evs (takeF m l p).2.2, it (takeF m l p).1] ∧ ∃ v', own = prR pb sp bb mb m v' vc (takeF m l p).2.1 := by
 by_cases he : p.err = 0
 rotate_left
 ·have hr : takeF m l p = (9, p, []) := if_pos he
  rw [hr]
  refine CallA.fxr (K := fun r own => r = .tup [nl0, it 9] ∧ own = prR pb sp bb mb m v vc p) ?_ (by rintro _ _ ⟨rfl, rfl⟩;exact ⟨_, _, .tup (.kn (.k .nil)) .nil, rfl, v, rfl⟩)
  refine CallA.of pg ord39 Tryz.func39 rfl Tryz.ntmps39 Tryz.results39 rfl fun h0 G0 O0 => ?_
  repeat' (first|refine Sp.h ?_|refine Lk.r rfl ?_|refine Rf.mk rfl ?_|refine xB ?_|refine xT ?_|refine xN ?_|fail)
  exact ⟨_, prR pb sp bb mb m v vc p, .tup (.same (.same (.z))), rfl, rfl⟩
 obtain ⟨res, hres⟩ : ∃ res, res = takF m l p [] := ⟨_, rfl⟩
 have hr : takeF m l p = res := by rw [takeF, if_neg (fun h9 => h9 he), hres]
 rw [hr]
 have hlen : res.2.2.length ≤ 100000 := by
  have h1 := takF_len (m := m) l p [] h.hld h.c
  rw [← hres] at h1
  have h2 := h.sz
  simp only [List.length_nil] at h1
  omega
 refine CallA.fxr (K := fun r own => ∃ u v', r = .tup [.ow u, it res.1] ∧ own = arrR u 37 13 res.2.2 evC :: prR pb sp bb mb m v' vc res.2.1) ?_ (by rintro _ _ ⟨u, v', rfl, rfl⟩;exact ⟨_, _, .tup (.s1 .here (by omega) (.k .nil)) .nil, rfl, v', rfl⟩)
 refine CallA.of pg ord39 Tryz.func39 rfl Tryz.ntmps39 Tryz.results39 rfl fun h0 G0 O0 => ?_
 repeat' (first|refine Sp.h ?_|refine Lk.r rfl ?_|refine Rf.mk rfl ?_|refine xA ?_|(refine Im.mk ?_;intro _)|refine xT ?_|fail)
 refine CA.nilOwn 6 37 13 evC rfl fun u0 => ?_
 refine CA.loop (fun x : Nat × PrS × List EvS × Value × Value => ⟨[(0, pm pb), (6, .ow x.2.2.2.1), (19, evs l), (20, it (l.length : Nat)), (21, it x.1)], arrR x.2.2.2.1 37 13 x.2.2.1 evC :: prR pb sp bb mb m x.2.2.2.2 vc x.2.1⟩)
  (fun x => x.1 ≤ l.length ∧ PrOK m N (B + x.1) x.2.1 ∧ x.2.1.err = 0 ∧ x.2.2.1.length ≤ 1000 * x.1 ∧ res = takF m (l.drop x.1) x.2.1 x.2.2.1) (fun x => l.length - x.1) (0, p, [], u0, v) xE ⟨Nat.zero_le _, h, he, by simp, hres⟩ ?_
 rintro ⟨i, ⟨⟨b, evl, w⟩, c, H, er⟩, out, u, v⟩ ⟨hi, hp, rfl, ho, hr⟩
 simp only at hi hp ho hr
 simp only
 by_cases hin : i < l.length
 ·obtain ⟨e, hx⟩ := get_of hin
  have hva := svalid_p sp m b v w e
  have hadd := dadd_a bb vc mb c H e (by rw [hp.c];exact hp.hld) (by rw [hp.c];omega)
  repeat' (first|refine Sp.h ?_|refine Lk.r rfl ?_|refine Rf.mk rfl ?_|refine xA ?_|refine OpK.r rfl ?_|(refine All.mk ?_;intro _)|refine xT ?_|refine xI ?_|refine Ch.l ⟨rfl, rfl⟩ ?_|(apply SetAsk.r;focus repeat' constructor)|refine xN ?_|refine xD ?_|fail)
  refine xW (hva) ?_
  rintro _ _ ⟨rfl, rfl⟩
  by_cases hv : EvV m (w.clock.length : Nat) e
  rotate_left
  ·have hr2 : res = (1, ⟨⟨b, evl, w⟩, c, H, 0⟩, out) := by
    rw [hr, List.drop_eq_getElem_cons hin, (List.getElem?_eq_some_iff.1 hx).2]
    simp only [takF, if_pos hv]
   rw [hr2]
   simp only [decide_eq_false hv]
   repeat' (first|refine Sp.h ?_|refine Lk.r rfl ?_|refine Rf.mk rfl ?_|refine xB ?_|refine OpK.r rfl ?_|refine xN ?_|fail)
   exact ⟨_, arrR u 37 13 out evC :: prR pb sp bb mb m v vc ⟨⟨b, evl, w⟩, c, H, 0⟩, .tup (.same (.same (.z))), _, v, rfl, rfl⟩
  simp only [decide_eq_true hv]
  obtain ⟨A, hA⟩ : ∃ A, A = addB c H e := ⟨_, rfl⟩
  obtain ⟨ha, hs⟩ := hp.add e
  simp only [← hA] at hadd ha hs
  have hAl := ha.sum
  have hHl := hp.hld.len
  simp only at hHl
  obtain ⟨D, hD⟩ : ∃ D, D = dlvF m A.2.1 ⟨b, evl, w⟩ out := ⟨_, rfl⟩
  have hr2 : res = if D.1 = 0 then takF m (l.drop (i + 1)) ⟨D.2.1, A.2.2.1, A.2.2.2, 0⟩ D.2.2 else (D.1, ⟨D.2.1, A.2.2.1, A.2.2.2, D.1⟩, D.2.2) := by
   rw [hr, List.drop_eq_getElem_cons hin, (List.getElem?_eq_some_iff.1 hx).2]
   simp only [takF, ← hA, ← hD]
   exact if_neg (fun h9 => h9 hv)
  repeat' (first|refine Sp.h ?_|refine Lk.r rfl ?_|refine Rf.mk rfl ?_|refine xA ?_|refine OpK.r rfl ?_|refine xT ?_|refine Ch.l ⟨rfl, rfl⟩ ?_|refine xD ?_|fail)
  refine xW (hadd) ?_
  rintro _ _ ⟨rfl, rfl⟩
  repeat' (first|refine Sp.h ?_|refine Lk.r rfl ?_|refine Rf.mk rfl ?_|refine OpK.r rfl ?_|(refine Im.mk ?_;intro _)|fail)
  refine CA.loop (fun x : Nat × StoS × List EvS × Value × Value => ⟨[(0, pm pb), (6, .ow x.2.2.2.1), (19, evs l), (20, it (l.length : Nat)), (21, it i), (42, evs A.2.1), (43, it (A.2.1.length : Nat)), (44, it x.1)], arrR x.2.2.2.1 37 13 x.2.2.1 evC :: prR pb sp bb mb m x.2.2.2.2 vc ⟨x.2.1, A.2.2.1, A.2.2.2, 0⟩⟩)
   (fun x => x.1 ≤ A.2.1.length ∧ StK m N (B + i + 1) x.2.1 (A.2.1.length - x.1 + A.2.2.2.length) ∧ x.2.2.1.length ≤ 1000 * i + x.1 ∧ D = dlvF m (A.2.1.drop x.1) x.2.1 x.2.2.1) (fun x => A.2.1.length - x.1) (0, ⟨b, evl, w⟩, out, u, v) xE ⟨Nat.zero_le _, hs, ho, hD⟩ ?_
  rintro ⟨j, ⟨b', evl', w'⟩, out', u', v'⟩ ⟨hj, hS, hol, hD2⟩
  simp only at hj hS hol hD2
  simp only
  by_cases hjn : j < A.2.1.length
  ·obtain ⟨y, hy⟩ := get_of hjn
   have hdl := deliver_a sp m b' v' evl' w' y hm hS.now (by have := hS.sz;simp only at this;omega)
   repeat' (first|refine Sp.h ?_|refine Lk.r rfl ?_|refine Rf.mk rfl ?_|refine xA ?_|refine OpK.r rfl ?_|(refine All.mk ?_;intro _)|refine xT ?_|refine xI ?_|refine Ch.l ⟨rfl, rfl⟩ ?_|(apply SetAsk.r;focus repeat' constructor)|refine xN ?_|refine xD ?_|fail)
   refine xW (hdl) ?_
   rintro _ _ ⟨rfl, v2, rfl⟩
   by_cases hk : (deliverF m evl' w' y).1 = 0
   ·have hD3 : D = dlvF m (A.2.1.drop (j + 1)) ⟨b', evl' ++ [y], (deliverF m evl' w' y).2⟩ (out' ++ [y]) := by
     rw [hD2, List.drop_eq_getElem_cons hjn, (List.getElem?_eq_some_iff.1 hy).2]
     simp only [dlvF, if_pos hk]
    rw [evsD, if_pos hk]
    repeat' (first|refine Sp.h ?_|refine Lk.r rfl ?_|refine Rf.mk rfl ?_|refine xA ?_|refine OpK.r rfl ?_|refine xP ?_|(refine All.mk ?_;intro _)|refine xU ?_|refine xT ?_|refine Ce.r ?_|refine Ch.l ⟨rfl, rfl⟩ ?_|(apply Fk.r;focus repeat' first|infer_instance|constructor)|refine Rf.mk ⟨rfl, rfl⟩ ?_|refine Rf.mk ⟨rfl, rfl, rfl⟩ ?_|(apply Mp.lit;(focus repeat (first|exact MpL.nil|(apply MpL.cons;(focus rfl))|(apply MpL.inv;(focus repeat constructor);(focus infer_instance)))))|refine xO ?_|fail)
    refine PA.lp (j + 1, ⟨b', evl' ++ [y], (deliverF m evl' w' y).2⟩, out' ++ [y], _, v2) xE ⟨⟨hjn, StK.next (hS.mono (by omega)) (by omega) hk, by simp only [List.length_append, List.length_cons, List.length_nil];omega, hD3⟩, by simp only;omega⟩
   ·have hD3 : D = ((deliverF m evl' w' y).1, ⟨b', evl', w'⟩, out') := by
     rw [hD2, List.drop_eq_getElem_cons hjn, (List.getElem?_eq_some_iff.1 hy).2]
     simp only [dlvF, if_neg hk]
    rw [hD3, if_neg hk] at hr2
    rw [evsD, if_neg hk, deliver_bad hk, hr2]
    repeat' (first|refine Sp.h ?_|refine Lk.r rfl ?_|refine Rf.mk rfl ?_|refine xB ?_|refine OpK.r rfl ?_|refine xT ?_|refine xV ?_|refine xN ?_|fail)
    exact ⟨_, arrR u' 37 13 out' evC :: prR pb sp bb mb m v2 vc ⟨⟨b', evl', w'⟩, A.2.2.1, A.2.2.2, (deliverF m evl' w' y).1⟩, .tup (.same (.same (.z))), _, v2, rfl, rfl⟩
  ·have hD3 : D = (0, ⟨b', evl', w'⟩, out') := by
    rw [hD2, List.drop_eq_nil_of_le (by omega)];rfl
   rw [hD3, if_pos rfl] at hr2
   repeat' (first|refine Sp.h ?_|refine Lk.r rfl ?_|refine Rf.mk rfl ?_|refine xB ?_|refine xO ?_|fail)
   refine PA.lp (i + 1, ⟨⟨b', evl', w'⟩, A.2.2.1, A.2.2.2, 0⟩, out', u', v') xE ⟨⟨hin, PrOK.of (hS.mono (by omega)) ha.clk ha.hld, rfl, by simp only;omega, hr2⟩, by simp only;omega⟩
 ·have hr2 : res = (0, ⟨⟨b, evl, w⟩, c, H, 0⟩, out) := by
   rw [hr, List.drop_eq_nil_of_le (by omega)];rfl
  rw [hr2]
  repeat' (first|refine Sp.h ?_|refine Lk.r rfl ?_|refine Rf.mk rfl ?_|refine xB ?_|refine xN ?_|fail)
  exact ⟨_, arrR u 37 13 out evC :: prR pb sp bb mb m v vc ⟨⟨b, evl, w⟩, c, H, 0⟩, .tup (.same (.same (.z))), _, v, rfl, rfl⟩
end Go.Proofs.YtmllihbhphnolaaGreat
namespace Go.Proofs.YtmllihbhphnolaaGreat
open Go Go.CF
set_option maxRecDepth 20000
abbrev SpS := Int × Int × Int
abbrev sps (l : List SpS) : AV := .sl 3 l spanC
def mis1 (a b : List Int) (i : Nat) : List SpS := match a[i]?, b[i]? with
 | some x, some y => if x < y then [((i : Int), x + 1, y)] else []
 | _, _ => []
def misN (a b : List Int) : Nat → List SpS
 | 0 => []
 | i + 1 => misN a b i ++ mis1 a b i
def misF (a b : List Int) : List SpS := misN a b a.length
theorem misN_len (a b : List Int) : ∀ i, (misN a b i).length ≤ i
 | 0 => Nat.le_refl _
 | i + 1 => by
  have := misN_len a b i
  have h1 : (mis1 a b i).length ≤ 1 := by
   unfold mis1
   repeat' split
   all_goals simp
  simp only [misN, List.length_append];omega
theorem misN_mem {a b : List Int} : ∀ {i : Nat} {s : SpS}, s ∈ misN a b i ↔ ∃ j x y, j < i ∧ a[j]? = some x ∧ b[j]? = some y ∧ x < y ∧ s = ((j : Int), x + 1, y)
 | 0, s => by simp [misN]
 | i + 1, s => by
  simp only [misN, List.mem_append, misN_mem (i := i)]
  constructor
  ·rintro (⟨j, x, y, h1, h2⟩|h)
   ·exact ⟨j, x, y, by omega, h2⟩
   ·unfold mis1 at h
    cases hx : a[i]? with
    | none => simp [hx] at h
    | some x =>
     cases hy : b[i]? with
     | none => simp [hx, hy] at h
     | some y =>
      simp only [hx, hy] at h
      split at h
      ·rw [List.mem_singleton] at h
       exact ⟨i, x, y, by omega, hx, hy, by assumption, h⟩
      ·cases h
  ·rintro ⟨j, x, y, h1, h2, h3, h4, rfl⟩
   by_cases hj : j = i
   ·subst hj
    right
    simp only [mis1, h2, h3, if_pos h4, List.mem_singleton]
   ·exact .inl ⟨j, x, y, by omega, h2, h3, h4, rfl⟩
theorem missing_e (a b : List Int) (ha : ValC a) (hb : ValC b) (hab : a.length = b.length) : CallO Tryz.prog 89 [ints a, ints b] 106 3 (misF a b) spanC := by
 have hal : AlikeC [a, b] := (alike2 a b).2 ⟨ha, hb, hab⟩
 have h1 := alike_p [a, b]
 rw [decide_eq_true hal] at h1
 refine CallA.of pg ord89 Tryz.func89 rfl Tryz.ntmps89 Tryz.results89 rfl fun h0 G0 O0 => ?_
 repeat' (first|refine Sp.h ?_|refine Lk.r rfl ?_|refine Rf.mk rfl ?_|(refine All.mk ?_;intro _)|(apply Fk.r;focus repeat' first|infer_instance|constructor)|refine Rf.mk ⟨rfl, rfl, rfl⟩ ?_|fail)
 rename_i w
 (apply Cl.lend (h1);(focus repeat' (first|exact Lend.nil|(apply Lend.lendm;(focus repeat constructor);(focus rfl);(focus first|omega|decide|(simp;omega)|exact Nat.le_of_ble_eq_true rfl))|fail)))
 repeat' (first|refine Sp.h ?_|refine Lk.r rfl ?_|refine Rf.mk rfl ?_|refine xA ?_|(refine Im.mk ?_;intro _)|fail)
 refine CA.nilOwn 5 106 3 spanC rfl fun w2 => ?_
 refine CA.loop (fun x : Nat × Value => ⟨[(0, ints a), (1, ints b), (13, .val (.int .i64 a.length)), (14, .val (.int .i64 x.1)), (5, .ow x.2)], [arrR x.2 106 3 (misN a b x.1) spanC]⟩)
  (fun x => x.1 ≤ a.length) (fun x => a.length - x.1) (0, w2) xE (Nat.zero_le _) ?_
 rintro ⟨i, v⟩ hi
 simp only at hi
 have hva3 := ha.2
 have hml := misN_len a b i
 by_cases hin : i < a.length
 ·obtain ⟨x, hx⟩ := get_of hin
  obtain ⟨y, hy⟩ := get_of (l := b) (i := i) (by omega)
  have hrx := ha.1 x (List.mem_of_getElem? hx)
  unfold rngK at hrx
  by_cases hxy : x < y
  ·have hm : misN a b (i + 1) = misN a b i ++ [((i : Int), x + 1, y)] := by simp only [misN, mis1, hx, hy, if_pos hxy]
   repeat' (first|refine Sp.h ?_|refine Lk.r rfl ?_|refine Rf.mk rfl ?_|refine xA ?_|refine OpK.r rfl ?_|refine xP ?_|(refine All.mk ?_;intro _)|refine xU ?_|refine xI ?_|refine Ce.r ?_|(apply Fk.r;focus repeat' first|infer_instance|constructor)|refine Rf.mk ⟨rfl, rfl⟩ ?_|refine Rf.mk ⟨rfl, rfl, rfl⟩ ?_|(apply Mp.lit;(focus repeat (first|exact MpL.nil|(apply MpL.cons;(focus rfl))|(apply MpL.inv;(focus repeat constructor);(focus infer_instance)))))|refine xD ?_|refine xO ?_|fail)
   rename_i v2
   refine PA.lp (i + 1, v2) ⟨by rw [hm];(repeat first|exact trivial|refine ⟨rfl, ?_⟩), by rw [hm];(repeat first|exact .nil|refine .cons (by repeat constructor) ?_)⟩ ⟨hin, by simp only;omega⟩
  ·have hm : misN a b (i + 1) = misN a b i := by simp only [misN, mis1, hx, hy, if_neg hxy, List.append_nil]
   repeat' (first|refine Sp.h ?_|refine Lk.r rfl ?_|refine Rf.mk rfl ?_|refine xA ?_|refine xB ?_|refine OpK.r rfl ?_|refine xI ?_|refine xD ?_|refine xO ?_|fail)
   refine PA.lp (i + 1, v) ⟨by rw [hm];(repeat first|exact trivial|refine ⟨rfl, ?_⟩), by rw [hm];(repeat first|exact .nil|refine .cons (by repeat constructor) ?_)⟩ ⟨hin, by simp only;omega⟩
 ·have : i = a.length := by omega
  subst this
  repeat' (first|refine Sp.h ?_|refine Lk.r rfl ?_|refine Rf.mk rfl ?_|refine xB ?_|refine xN ?_|fail)
  exact ⟨_, _, .one (.same (.z)), v, rfl, rfl⟩
theorem missing_p (a b : List Int) (ha : ValC a) (hb : ValC b) (hab : a.length = b.length) : CallP Tryz.prog 89 [ints a, ints b] (sps (misF a b)) :=
 CallA.fz (by have := misN_len a b a.length;have := ha.2.2;unfold misF;omega) (missing_e a b ha hb hab)
end Go.Proofs.YtmllihbhphnolaaGreat
