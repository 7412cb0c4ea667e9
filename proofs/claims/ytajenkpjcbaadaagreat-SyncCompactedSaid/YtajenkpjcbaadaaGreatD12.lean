/- Part 12 of the ground of this proof: what its texts say of the model, the program and the plain data; conditions: those that are named. -/
import Derived.Test.YtajenkpjcbaadaaGreatD11
namespace Go.Proofs.YtajenkpjcbaadaaGreat
open Go Go.CF
set_option maxRecDepth 20000
def BefE (a b : EvS) : Prop := FormedE a ∧ FormedE b ∧ HasC b.past a.rep a.num
def FreeE (rest : List EvS) (e : EvS) : Prop := ∀ y ∈ rest, ¬ BefE y e
noncomputable instance (rest : List EvS) (e : EvS) : Decidable (FreeE rest e) := Classical.propDecidable _
noncomputable def freeN (rest : List EvS) : Nat → List Int
 | 0 => []
 | n + 1 => freeN rest n ++ (match rest[n]? with
  | some e => if FreeE rest e then [(n : Int)] else []
  | none => [])
noncomputable def atF (order : List Int) (n : Nat) (fr : List Int) : Int := match order[n]? with
 | some x => (fr[(x % (fr.length : Int)).toNat]?).getD 0
 | none => (fr[0]?).getD 0
inductive ExtR (order : List Int) : List EvS → List EvS → List EvS → Prop
 | done {out : List EvS} : ExtR order out [] out
 | step {out rest X : List EvS} {e : EvS} {i : Nat} : freeN rest rest.length ≠ [] → atF order out.length (freeN rest rest.length) = i → rest[i]? = some e → ExtR order (out ++ [e]) (rest.eraseIdx i) X → ExtR order out rest X
theorem free_mem {rest : List EvS} {n : Nat} (hn : n ≤ rest.length) {x : Int} : x ∈ freeN rest n ↔ ∃ (i : Nat) (e : EvS), x = i ∧ i < n ∧ rest[i]? = some e ∧ FreeE rest e := by
 induction n with
 | zero => simp [freeN]
 | succ n ih =>
  obtain ⟨e, he⟩ := get_of (l := rest) (i := n) (by omega)
  rw [freeN, List.mem_append, ih (by omega), he]
  constructor
  ·rintro (⟨i, d, h1, h2, h3⟩|h)
   ·exact ⟨i, d, h1, by omega, h3⟩
   ·simp only at h
    split at h
    ·rename_i hf
     exact ⟨n, e, List.mem_singleton.1 h, by omega, he, hf⟩
    ·cases h
  ·rintro ⟨i, d, h1, h2, h3, h4⟩
   by_cases hi : i < n
   ·exact .inl ⟨i, d, h1, hi, h3, h4⟩
   ·have : i = n := by omega
    subst this
    rw [he] at h3;cases h3
    right
    simp only [if_pos h4, h1, List.mem_singleton]
theorem at_mem {order : List Int} (ho : ∀ x ∈ order, 0 ≤ x) {n : Nat} {fr : List Int} (hf : fr ≠ []) : atF order n fr ∈ fr := by
 have hl : 0 < fr.length := List.length_pos_iff.2 hf
 unfold atF
 split
 ·rename_i x hx
  have := ho x (List.mem_of_getElem? hx)
  have h1 : 0 ≤ x % (fr.length : Int) := Int.emod_nonneg _ (by omega)
  have h2 : x % (fr.length : Int) < fr.length := Int.emod_lt_of_pos _ (by omega)
  obtain ⟨y, hy⟩ := get_of (l := fr) (i := (x % (fr.length : Int)).toNat) (by omega)
  rw [hy, Option.getD_some]
  exact List.mem_of_getElem? hy
 ·obtain ⟨y, hy⟩ := get_of (l := fr) (i := 0) hl
  rw [hy, Option.getD_some]
  exact List.mem_of_getElem? hy
theorem erase_perm {α : Type} : ∀ {l : List α} {i : Nat} {e : α}, l[i]? = some e → l.Perm (e :: l.eraseIdx i)
 | [], i, e, h => by simp at h
 | a :: l, 0, e, h => by
  simp only [List.getElem?_cons_zero, Option.some.injEq] at h
  subst h
  exact List.Perm.refl _
 | a :: l, i + 1, e, h => by
  have ih := erase_perm (l := l) (i := i) (e := e) (by simpa using h)
  rw [List.eraseIdx_cons_succ]
  exact (ih.cons a).trans (List.Perm.swap e a _)
theorem uniq_nodup {l : List EvS} (h : Uniq l) : l.Nodup := by
 rw [List.nodup_iff_pairwise_ne, List.pairwise_iff_getElem]
 intro i j hi hj hij he
 have := h i j _ _ (List.getElem?_eq_getElem hi) (List.getElem?_eq_getElem hj) (by rw [he])
 omega
theorem free_ne {l rest : List EvS} (hc : ClosedE l) (hr : ∀ e ∈ rest, e ∈ l) (hn : rest ≠ []) : freeN rest rest.length ≠ [] := by
 have key : ∀ n, n ≤ rest.length → 0 < n → ∃ (i : Nat) (e : EvS), i < n ∧ rest[i]? = some e ∧ ∀ y ∈ rest.take n, e.time ≤ y.time := by
  intro n
  induction n with
  | zero => intro _ h;omega
  | succ n ih =>
   intro h1 _
   obtain ⟨d, hd⟩ := get_of (l := rest) (i := n) (by omega)
   have htk : rest.take (n + 1) = rest.take n ++ [d] := by rw [List.take_add_one, hd];rfl
   rw [htk]
   by_cases h0 : n = 0
   ·subst h0
    exact ⟨0, d, by omega, hd, fun y hy => by simp at hy;subst hy;exact Int.le_refl _⟩
   ·obtain ⟨i, e, g1, g2, g3⟩ := ih (by omega) (by omega)
    by_cases hle : e.time ≤ d.time
    ·refine ⟨i, e, by omega, g2, fun y hy => ?_⟩
     rcases List.mem_append.1 hy with hy|hy
     ·exact g3 y hy
     ·rw [List.mem_singleton.1 hy];exact hle
    ·refine ⟨n, d, by omega, hd, fun y hy => ?_⟩
     rcases List.mem_append.1 hy with hy|hy
     ·have := g3 y hy;omega
     ·rw [List.mem_singleton.1 hy];exact Int.le_refl _
 obtain ⟨i, e, h1, h2, h3⟩ := key rest.length (Nat.le_refl _) (List.length_pos_iff.2 hn)
 rw [List.take_length] at h3
 have : (i : Int) ∈ freeN rest rest.length := (free_mem (Nat.le_refl _)).2 ⟨i, e, rfl, h1, h2, fun y hy hb => by
  have h4 := h3 y hy
  have := (closed_past hc (hr e (List.mem_of_getElem? h2)) (hr y hy) hb.2.2).1
  omega⟩
 exact fun h => by rw [h] at this;cases this
theorem ext_run {l : List EvS} (hc : ClosedE l) {order : List Int} (ho : ∀ x ∈ order, 0 ≤ x) : ∀ (n : Nat) (out rest : List EvS), rest.length = n → (out ++ rest).Perm l → ExtO l out → ∃ X, ExtR order out rest X ∧ ExtO l X ∧ X.Perm l := by
 intro n
 induction n with
 | zero =>
  intro out rest hn hp hx
  have hr := List.eq_nil_of_length_eq_zero hn
  subst hr
  exact ⟨out, .done, hx, by simpa using hp⟩
 | succ n ih =>
  intro out rest hn hp hx
  have hsub : ∀ e ∈ rest, e ∈ l := fun e he => hp.mem_iff.1 (by simp [he])
  have hf := free_ne hc hsub (by intro h;rw [h] at hn;cases hn)
  have hm := at_mem ho (n := out.length) hf
  obtain ⟨i, e, h1, h2, h3, h4⟩ := (free_mem (Nat.le_refl _)).1 hm
  have hel := hsub e (List.mem_of_getElem? h3)
  have hpe : rest.Perm (e :: rest.eraseIdx i) := erase_perm h3
  have hp2 : ((out ++ [e]) ++ rest.eraseIdx i).Perm l := by
   rw [List.append_assoc]
   exact (hpe.symm.append_left out).trans hp
  have hnd : (out ++ rest).Nodup := hp.symm.nodup (uniq_nodup hc.2.1)
  have hno : e ∉ out := fun h => (List.nodup_append.1 hnd).2.2 e h e (List.mem_of_getElem? h3) rfl
  obtain ⟨X, g1, g2, g3⟩ := ih (out ++ [e]) (rest.eraseIdx i) (by rw [List.length_eraseIdx, if_pos h2];omega) hp2 (hx.snoc hel hno fun d hd hh => by
   have hd2 : d ∈ out ++ rest := hp.mem_iff.2 hd
   rcases List.mem_append.1 hd2 with h9|h9
   ·exact h9
   ·exact absurd ⟨(hc.2.2.1 d hd).1, (hc.2.2.1 e hel).1, hh⟩ (h4 d h9))
  exact ⟨X, .step hf h1 h3 g1, g2, g3⟩
theorem ext_ok {l : List EvS} (hc : ClosedE l) {order : List Int} (ho : ∀ x ∈ order, 0 ≤ x) : ∃ X, ExtR order [] (ordE l) X ∧ ExtO l X ∧ X.Perm l :=
 ext_run hc ho _ [] (ordE l) rfl (by simpa using (ordE_perm l).symm) (ExtO.nil l)
end Go.Proofs.YtajenkpjcbaadaaGreat
namespace Go.Proofs.YtajenkpjcbaadaaGreat
open Go Go.CF
set_option maxRecDepth 20000
structure SuitS (m : ModS) (ld : List Int) (l : List EvS) : Prop where
 e : SuitE m l
 ne : 0 < l.length
 ln : ld.length = strF m
 ld : ∀ x ∈ ld, -1000 ≤ x ∧ x ≤ 1000
 sm : ∀ a ∈ m.acts, ∀ p ∈ a.eff.delta, -1000 ≤ p.2 ∧ p.2 ≤ 1000
theorem SuitS.smd {m : ModS} {ld : List Int} {l : List EvS} (h : SuitS m ld l) : SmD m := fun a ha => ⟨(h.e.1.eff a ha).dl, h.sm a ha⟩
end Go.Proofs.YtajenkpjcbaadaaGreat
namespace Go.Proofs.YtajenkpjcbaadaaGreat
open Go Go.CF
set_option maxRecDepth 20000
noncomputable def stN (m : ModS) (n : Nat) (ld : List Int) (X : List EvS) : NowS := ⟨clkE n X, X.foldl (fun t e => max t e.time) 0, X.foldl (addE m) ld, X.foldl (mrg1 m) (List.replicate (mrgF m).length mg0), X.foldl plE []⟩
theorem deliver_st {m : ModS} {evl : List EvS} {w : NowS} {e : EvS} (h : (deliverF m evl w e).1 = 0) : (deliverF m evl w e).2 = ⟨cntF w.clock e, max w.time e.time, addE m w.state e, (applyF m w.merged e).2, plE w.places e⟩ := by
 unfold deliverF at h ⊢
 repeat' split
 all_goals first
  | rfl
  | (exfalso;simp_all;done)
theorem deliver_ok' {m : ModS} {evl : List EvS} {w : NowS} {e : EvS} (h : (deliverF m evl w e).1 = 0) : ValL (mrgF m) w.merged ∧ EvV m (w.clock.length : Nat) e ∧ (applyF m w.merged e).1 = 0 := by
 have key : EvV m (w.clock.length : Nat) e ∧ (applyF m w.merged e).1 = 0 := by
  unfold deliverF at h
  repeat' split at h
  all_goals first
   | (exfalso;simp at h;done)
   | (rename_i h1 _ _ _ _ h6;exact ⟨Classical.not_not.1 h1, Classical.not_not.1 h6⟩)
   | (rename_i h6;exact absurd h h6)
 exact ⟨(applyF_ok key.2).1, key⟩
theorem plL_len (l : List EvS) : (plL l).length ≤ l.length := by unfold plL;rw [List.length_map];exact List.length_filter_le _ _
theorem foldE_len (m : ModS) (X : List EvS) : ∀ ld : List Int, (X.foldl (addE m) ld).length = ld.length := by
 induction X with
 | nil => exact fun _ => rfl
 | cons e X ih => intro ld;rw [List.foldl_cons, ih, addE_len]
theorem insS_ld {ld : List Int} (h : ∀ x ∈ ld, -1000 ≤ x ∧ x ≤ 1000) : insS ld := fun x hx => by have := h x hx;omega
end Go.Proofs.YtajenkpjcbaadaaGreat
namespace Go.Proofs.YtajenkpjcbaadaaGreat
open Go Go.CF
set_option maxRecDepth 20000
def SzM (k : List MgS) : Prop := k.length ≤ 100000 ∧ ∀ g ∈ k, g.marks.length ≤ 1000000
theorem mrg1_sz {m : ModS} {k : List MgS} {e : EvS} (h : SzM k) : SzM (mrg1 m k e) := by
 unfold mrg1
 by_cases h0 : (applyF m k e).1 = 0
 ·obtain ⟨_, _, h3, _, h5⟩ := applyF_ok h0
  exact ⟨by rw [h3];exact h.1, h5⟩
 ·have h2 : (applyF m k e).2 = [] := by
   unfold applyF at h0 ⊢
   split
   ·rfl
   ·rename_i h1
    rw [if_neg h1] at h0
    split
    ·rename_i h2;rw [if_pos h2] at h0;exact absurd rfl h0
    ·rename_i h2
     rw [if_neg h2] at h0
     unfold gatherF at h0 ⊢
     split
     ·rfl
     ·rename_i h3
      rw [h3] at h0
      simp only at h0
      split
      ·rfl
      ·rename_i h4;rw [if_neg h4] at h0;exact absurd rfl h0
  rw [h2]
  exact ⟨by simp, by simp⟩
structure BasOK (m : ModS) (n : Nat) (b : NowS) : Prop where
 clk : ValC b.clock
 len : b.clock.length = n
 st : b.state.length = strF m
 mg : SzM b.merged
 pls : SrtI b.places
 pll : b.places.length ≤ 10000
theorem withP_srt {l : List Int} {n : Int} (h : SrtI l) : SrtI (withP l n) := (withP_si (l := l) (s := l) (n := n) ⟨h, fun _ => Iff.rfl⟩).1
theorem withP_le {l : List Int} {n : Int} (h : SrtI l) : (withP l n).length ≤ l.length + 1 := by
 by_cases hn : n ∈ l
 ·rw [show withP l n = l from if_pos hn];omega
 ·rw [with_eq h hn];simp;have := idxN_le (fun y => decide (¬ y < n)) l;unfold posI;omega
theorem plE_srt {l : List Int} {e : EvS} (h : SrtI l) : SrtI (plE l e) ∧ (plE l e).length ≤ l.length + 1 := by
 unfold plE
 split
 ·exact ⟨withP_srt h, withP_le h⟩
 ·exact ⟨h, by omega⟩
theorem inL_succ {c : List Int} {l : List EvS} {i : Nat} {e : EvS} (h : l[i]? = some e) : inL c (l.take (i + 1)) = inL c (l.take i) ++ if HasC c e.rep e.num then [e] else [] := by
 rw [inL, filter_succ h]
 by_cases hh : HasC c e.rep e.num <;> simp [hh, inL]
theorem outL_succ {c : List Int} {l : List EvS} {i : Nat} {e : EvS} (h : l[i]? = some e) : outL c (l.take (i + 1)) = outL c (l.take i) ++ if HasC c e.rep e.num then [] else [e] := by
 rw [outL, filter_succ h]
 by_cases hh : HasC c e.rep e.num <;> simp [hh, outL]
structure MidOK (m : ModS) (b x : NowS) (i : Nat) : Prop where
 ck : x.clock = b.clock
 st : x.state.length = strF m
 mg : SzM x.merged
 pls : SrtI x.places
 pll : x.places.length ≤ b.places.length + i
theorem mid_step {m : ModS} {b x : NowS} {i : Nat} {e : EvS} (h : MidOK m b x i) : MidOK m b (cmp1 m x e) (i + 1) :=
 ⟨h.ck, by simp only [cmp1, addE_len];exact h.st, mrg1_sz h.mg, (plE_srt h.pls).1, by have := (plE_srt (e := e) h.pls).2;have := h.pll;simp only [cmp1];omega⟩
theorem fits35_p (s : Nat) (m : ModS) (b : NowS) (v : Value) (w : NowS) (c : List Int) :
  CallA Tryz.prog 69 [pm s, ints c] [stoR s m b v w] fun r own => r = bl (decide (ValC c ∧ c.length = w.clock.length)) ∧ own = [stoR s m b v w] := by
 have h := validC_p c
 by_cases h1 : ValC c
 ·rw [decide_eq_true h1] at h
  refine CallA.of pg ord69 Tryz.func69 rfl Tryz.ntmps69 Tryz.results69 rfl fun h0 G0 O0 => ?_
  repeat' (first|refine Sp.h ?_|refine Lk.r rfl ?_|refine Rf.mk rfl ?_|refine Im.mk fun _=>?_|refine xT ?_|refine xN ?_|(apply Cl.p (h);focus repeat' constructor))
  refine ⟨_, _, .one (.same (.z)), vb (decide_eq_decide.2 ⟨fun h => ⟨h1, by omega⟩, fun h => by omega⟩), rfl⟩
 ·rw [decide_eq_false h1] at h
  rw [decide_eq_false (fun h9 => h1 h9.1)]
  refine CallA.of pg ord69 Tryz.func69 rfl Tryz.ntmps69 Tryz.results69 rfl fun h0 G0 O0 => ?_
  repeat' (first|refine Sp.h ?_|refine Lk.r rfl ?_|refine Rf.mk rfl ?_|refine xN ?_|(apply Cl.p (h);focus repeat' constructor))
  exact ⟨_, _, .one (.same (.z)), rfl, rfl⟩
abbrev midC (x : NowS) (u : Value) : List AV := [ints x.clock, it x.time, .ow u, mgs x.merged, nl0, nl0, ints x.places]
set_option maxHeartbeats 16000000 in
theorem compact_a (s : Nat) (m : ModS) (b : NowS) (v : Value) (evl : List EvS) (w : NowS) (c : List Int) (hm : MOK m) (hw : NowOK m w) (hb : BasOK m w.clock.length b) (hl : evl.length ≤ 1000) (hev : ∀ e ∈ evl, EvV m (w.clock.length : Nat) e) :
  CallA Tryz.prog 30 [pm s, ints c] [stoR s m b v w, arrR v 40 13 evl evC] fun r own => r = it (compactF m ⟨b, evl, w⟩ c).1 ∧ ∃ v', own = [stoR s m (compactF m ⟨b, evl, w⟩ c).2.base v' (compactF m ⟨b, evl, w⟩ c).2.now, arrR v' 40 13 (compactF m ⟨b, evl, w⟩ c).2.evs evC] := by
 have hfi := fits35_p s m b v w c
 have hstr := hm.str
 by_cases h1 : ValC c ∧ c.length = w.clock.length
 rotate_left
 ·have hF : compactF m ⟨b, evl, w⟩ c = (1, ⟨b, evl, w⟩) := @if_pos _ (Classical.propDecidable _) h1 _ _ _
  rw [hF]
  rw [decide_eq_false h1] at hfi
  refine CallA.of pg ord30 Tryz.func30 rfl Tryz.ntmps30 Tryz.results30 rfl fun h0 G0 O0 => ?_
  repeat' (first|refine Sp.h ?_|refine Lk.r rfl ?_|refine Rf.mk rfl ?_|fail)
  refine xW (hfi) ?_
  rintro _ _ ⟨rfl, rfl⟩
  repeat' (first|refine Sp.h ?_|refine Lk.r rfl ?_|refine Rf.mk rfl ?_|refine xB ?_|refine xN ?_|fail)
  exact ⟨_, _, .one (.same (.z)), rfl, v, rfl⟩
 rw [decide_eq_true h1] at hfi
 have hF9 : ¬ (Ins b.clock c ∧ Ins c w.clock ∧ ∀ e ∈ evl, HasC c e.rep e.num → Ins e.past c) → compactF m ⟨b, evl, w⟩ c = (9, ⟨b, evl, w⟩) := fun h =>
  (@if_neg _ (Classical.propDecidable _) (fun h9 => h9 h1) _ _ _).trans (@if_pos _ (Classical.propDecidable _) h _ _ _)
 have hm1 := missing_o c b.clock
 have hm2 := missing_o w.clock c
 have hbl := hb.len
 have hal1 : AlikeC [c, b.clock] := (alike2 _ _).2 ⟨h1.1, hb.clk, by omega⟩
 have hal2 : AlikeC [w.clock, c] := (alike2 _ _).2 ⟨hw.clk, h1.1, by omega⟩
 by_cases h2 : Ins b.clock c
 rotate_left
 ·rw [hF9 (fun h => h2 h.1)]
  refine CallA.of pg ord30 Tryz.func30 rfl Tryz.ntmps30 Tryz.results30 rfl fun h0 G0 O0 => ?_
  repeat' (first|refine Sp.h ?_|refine Lk.r rfl ?_|refine Rf.mk rfl ?_|fail)
  refine xW (hfi) ?_
  rintro _ _ ⟨rfl, rfl⟩
  repeat' (first|refine Sp.h ?_|refine Lk.r rfl ?_|refine Rf.mk rfl ?_|refine xA ?_|refine xT ?_|fail)
  refine xW (hm1) ?_
  rintro _ _ ⟨u, l, rfl, rfl, k1, k2⟩
  have k0 : 0 < l.length := List.length_pos_iff.2 fun h => h2 (k1.1 h hal1)
  repeat' (first|refine Sp.h ?_|refine Lk.r rfl ?_|refine Rf.mk rfl ?_|refine xA ?_|refine xU ?_|refine xN ?_|fail)
  exact ⟨_, _, .one (.same (.z)), rfl, v, rfl⟩
 by_cases h3 : Ins c w.clock
 rotate_left
 ·rw [hF9 (fun h => h3 h.2.1)]
  refine CallA.of pg ord30 Tryz.func30 rfl Tryz.ntmps30 Tryz.results30 rfl fun h0 G0 O0 => ?_
  repeat' (first|refine Sp.h ?_|refine Lk.r rfl ?_|refine Rf.mk rfl ?_|fail)
  refine xW (hfi) ?_
  rintro _ _ ⟨rfl, rfl⟩
  repeat' (first|refine Sp.h ?_|refine Lk.r rfl ?_|refine Rf.mk rfl ?_|refine xA ?_|refine xT ?_|fail)
  refine xW (hm1) ?_
  rintro _ _ ⟨u, l, rfl, rfl, k1, k2⟩
  have k0 : l.length = 0 := by rw [k1.2 fun _ => h2];rfl
  repeat' (first|refine Sp.h ?_|refine Lk.r rfl ?_|refine Rf.mk rfl ?_|refine xB ?_|refine xU ?_|refine xT ?_|fail)
  refine xW (hm2) ?_
  rintro _ _ ⟨u2, l2, rfl, rfl, j1, j2⟩
  have j0 : 0 < l2.length := List.length_pos_iff.2 fun h => h3 (j1.1 h hal2)
  repeat' (first|refine Sp.h ?_|refine Lk.r rfl ?_|refine Rf.mk rfl ?_|refine xA ?_|refine xB ?_|refine xU ?_|refine xN ?_|fail)
  exact ⟨_, _, .one (.same (.z)), rfl, v, rfl⟩
 have hcb := cloneBase_a b nl0 nl0 ⟨by have := hb.clk.2.2;omega, by have := hb.st;omega, hb.mg.1, hb.mg.2, by have := hb.pll;omega⟩
 have hcc := clone_o c (by have := h1.1.2.2;omega)
 refine CallA.of pg ord30 Tryz.func30 rfl Tryz.ntmps30 Tryz.results30 rfl fun h0 G0 O0 => ?_
 repeat' (first|refine Sp.h ?_|refine Lk.r rfl ?_|refine Rf.mk rfl ?_|fail)
 refine xW (hfi) ?_
 rintro _ _ ⟨rfl, rfl⟩
 repeat' (first|refine Sp.h ?_|refine Lk.r rfl ?_|refine Rf.mk rfl ?_|refine xA ?_|refine xT ?_|fail)
 refine xW (hm1) ?_
 rintro _ _ ⟨u1, l1, rfl, rfl, k1, k2⟩
 have k0 : l1.length = 0 := by rw [k1.2 fun _ => h2];rfl
 repeat' (first|refine Sp.h ?_|refine Lk.r rfl ?_|refine Rf.mk rfl ?_|refine xB ?_|refine xU ?_|refine xT ?_|fail)
 refine xW (hm2) ?_
 rintro _ _ ⟨u2, l2, rfl, rfl, j1, j2⟩
 have j0 : l2.length = 0 := by rw [j1.2 fun _ => h3];rfl
 repeat' (first|refine Sp.h ?_|refine Lk.r rfl ?_|refine Rf.mk rfl ?_|refine xB ?_|refine xU ?_|refine xT ?_|refine Ch.r ?_|fail)
 refine xW (hcb) ?_
 rintro _ _ ⟨v1, v2, v3, L, v4, rfl, hL, rfl⟩
 (repeat' (first|(show CA _ _ (Code.region 6 _ _) _ _;apply Stopped.out)|refine Sp.h ?_|refine Lk.r rfl ?_|refine Rf.mk rfl ?_|refine All.mk fun _=>?_|refine xT ?_|(apply SetAsk.r;focus repeat' constructor)|refine xN ?_|fail));any_goals apply Stopped.mk
 rename_i b5
 have hLl : L.length ≤ 1000000 := by have h8 := congrArg List.length hL;rw [List.length_map] at h8;have := hb.mg.1;omega
 have hLk : ∀ x ∈ L, x.marks.length ≤ 1000000 := fun x hx => hb.mg.2 x.g (by rw [← hL];exact List.mem_map_of_mem hx)
 have hbc := hb.clk.2.2
 have hbp := hb.pll
 have hbs := hb.st
 apply CA.own
 focus (apply OX.blk (b := b5);(focus repeat constructor);(focus (apply FX.s1;(focus repeat constructor);(focus omega);apply FX.k;apply FX.k;apply out_fx2;(focus repeat constructor);(focus repeat constructor);(focus exact hLl);(focus exact hLk);apply FX.k;apply FX.k;apply FX.s1;(focus repeat constructor);(focus omega);exact FX.nil));(focus repeat constructor))
 rw [hL]
 repeat' (first|refine Sp.h ?_|refine Lk.r rfl ?_|refine Rf.mk rfl ?_|refine xU ?_|refine xT ?_|fail)
 refine CA.nilOwn 6 40 13 evC rfl fun vr => ?_
 refine CA.loop (fun x : Nat × Value × NowS => ⟨[(0, pm s), (1, ints c), (5, pm b5), (6, .ow x.2.1), (46, .ow v), (47, it (evl.length : Nat)), (48, it x.1)], [stoR s m b v w, arrR v 40 13 evl evC, blkR b5 130 (midC x.2.2 v2), arrR v2 3 1 x.2.2.state intC, arrR x.2.1 40 13 (outL c (evl.take x.1)) evC]⟩)
  (fun x => x.1 ≤ evl.length ∧ (∀ e ∈ evl.take x.1, HasC c e.rep e.num → Ins e.past c) ∧ MidOK m b x.2.2 x.1 ∧ x.2.2 = (inL c (evl.take x.1)).foldl (cmp1 m) b) (fun x => evl.length - x.1) (0, vr, b) xE ⟨Nat.zero_le _, by simp, ⟨rfl, hb.st, hb.mg, hb.pls, by simp⟩, rfl⟩ ?_
 rintro ⟨i, vr, y⟩ ⟨hi, hin0, hmid, hy⟩
 simp only at hi hin0 hmid hy
 simp only
 have hyp := hmid.pll
 have hys := hmid.st
 by_cases hil : i < evl.length
 ·obtain ⟨e, he⟩ := get_of hil
  have heV := hev e (List.mem_of_getElem? he)
  have hn := name35_p e
  have hh := hasC_p c e.rep e.num
  have hsi := inL_succ (c := c) he
  have hso := outL_succ (c := c) he
  have hol : (outL c (evl.take i)).length ≤ i := by
   have := List.length_filter_le (fun e : EvS => decide (¬ HasC c e.rep e.num)) (evl.take i)
   rw [List.length_take] at this
   unfold outL;omega
  by_cases hhc : HasC c e.rep e.num
  rotate_left
  ·rw [decide_eq_false hhc] at hh
   rw [if_neg hhc] at hsi hso
   rw [List.append_nil] at hsi
   repeat' (first|refine Sp.h ?_|refine Lk.r rfl ?_|refine Rf.mk rfl ?_|refine xA ?_|refine xB ?_|refine xP ?_|refine All.mk fun _=>?_|refine xU ?_|refine xT ?_|refine xI ?_|refine xJ ?_|refine Ce.r ?_|refine Ch.l ⟨rfl, rfl⟩ ?_|(apply SetAsk.r;focus repeat' constructor)|(apply Fk.r;focus repeat' first|infer_instance|constructor)|refine xN ?_|refine Rf.mk ⟨rfl, rfl⟩ ?_|refine Rf.mk ⟨rfl, rfl, rfl⟩ ?_|(apply Mp.lit;(focus repeat (first|exact MpL.nil|(apply MpL.cons;(focus rfl))|(apply MpL.inv;(focus repeat constructor);(focus infer_instance)))))|refine xO ?_|(apply Cl.p (hn);focus (repeat' constructor);done)|(apply Cl.p (hh);focus (repeat' constructor);done))
   rw [← hso]
   exact PA.lp (i + 1, _, y) xE ⟨⟨hil, all_succ he hin0 (fun h => absurd h hhc), ⟨hmid.ck, hmid.st, hmid.mg, hmid.pls, by simp only;omega⟩, by simp only;rw [hsi];exact hy⟩, by simp only;omega⟩
  rw [decide_eq_true hhc] at hh
  rw [if_pos hhc] at hsi hso
  rw [List.append_nil] at hso
  have hm3 := missing_o c e.past
  have hal3 : AlikeC [c, e.past] := (alike2 _ _).2 ⟨h1.1, heV.1.1, by have := heV.2.1;omega⟩
  by_cases hie : Ins e.past c
  rotate_left
  ·rw [hF9 (fun h => hie (h.2.2 e (List.mem_of_getElem? he) hhc))]
   repeat' (first|refine Sp.h ?_|refine Lk.r rfl ?_|refine Rf.mk rfl ?_|refine xA ?_|refine All.mk fun _=>?_|refine xU ?_|refine xT ?_|refine xI ?_|refine xJ ?_|refine Ch.l ⟨rfl, rfl⟩ ?_|(apply SetAsk.r;focus repeat' constructor)|refine xN ?_|(apply Cl.p (hn);focus (repeat' constructor);done)|(apply Cl.p (hh);focus (repeat' constructor);done))
   refine xW (hm3) ?_
   rintro _ _ ⟨u3, l3, rfl, rfl, q1, q2⟩
   have q0 : 0 < l3.length := List.length_pos_iff.2 fun h => hie (q1.1 h hal3)
   repeat' (first|refine Sp.h ?_|refine Lk.r rfl ?_|refine Rf.mk rfl ?_|refine xA ?_|refine xU ?_|refine xN ?_|fail)
   exact ⟨_, _, .one (.same (.z)), rfl, v, rfl⟩
  have hap := applyT_p m y.merged e hm
  have hwi := with_p y.places e.place hmid.pls (by omega)
  have hst := mid_step (e := e) hmid
  have hfd : cmp1 m y e = (inL c (evl.take (i + 1))).foldl (cmp1 m) b := by rw [hsi, List.foldl_append, ← hy];rfl
  have hnx : ∀ d ∈ evl.take (i + 1), HasC c d.rep d.num → Ins d.past c := all_succ he hin0 (fun _ => hie)
  repeat' (first|refine Sp.h ?_|refine Lk.r rfl ?_|refine Rf.mk rfl ?_|refine xA ?_|refine All.mk fun _=>?_|refine xU ?_|refine xT ?_|refine xI ?_|refine xJ ?_|refine Ch.l ⟨rfl, rfl⟩ ?_|(apply SetAsk.r;focus repeat' constructor)|refine xN ?_|(apply Cl.p (hn);focus (repeat' constructor);done)|(apply Cl.p (hh);focus (repeat' constructor);done))
  refine xW (hm3) ?_
  rintro _ _ ⟨u3, l3, rfl, rfl, q1, q2⟩
  have q0 : l3.length = 0 := by rw [q1.2 fun _ => hie];rfl
  by_cases hk : e.kind = 0
  rotate_left
  ·have hadd : addE m y.state e = y.state := if_neg hk
   by_cases hpl : 0 < e.place
   ·repeat' (first|refine Sp.h ?_|refine Lk.r rfl ?_|refine Rf.mk rfl ?_|refine xA ?_|refine xB ?_|refine OpK.r rfl ?_|refine xU ?_|refine xT ?_|refine Ch.l ⟨rfl, rfl⟩ ?_|refine Ch.r ?_|refine xV ?_|refine xD ?_|refine xO ?_|(apply Cl.p (hap);focus (repeat' constructor);done)|(apply Cl.p (hwi);focus (repeat' constructor);done))
    have hz : (⟨y.clock, max y.time e.time, y.state, (applyF m y.merged e).2, withP y.places e.place⟩ : NowS) = cmp1 m y e := by rw [cmp1, hadd, plE, if_pos hpl];rfl
    all_goals rw [← hso]
    all_goals exact PA.lp (i + 1, vr, ⟨y.clock, max y.time e.time, y.state, (applyF m y.merged e).2, withP y.places e.place⟩) xE ⟨⟨hil, hnx, by simp only;rw [hz];exact hst, by simp only;rw [hz];exact hfd⟩, by simp only;omega⟩
   ·repeat' (first|refine Sp.h ?_|refine Lk.r rfl ?_|refine Rf.mk rfl ?_|refine xB ?_|refine OpK.r rfl ?_|refine xU ?_|refine xT ?_|refine Ch.l ⟨rfl, rfl⟩ ?_|refine Ch.r ?_|refine xV ?_|refine xD ?_|refine xO ?_|(apply Cl.p (hap);focus (repeat' constructor);done)|(apply Cl.p (hwi);focus (repeat' constructor);done))
    have hz : (⟨y.clock, max y.time e.time, y.state, (applyF m y.merged e).2, y.places⟩ : NowS) = cmp1 m y e := by rw [cmp1, hadd, plE, if_neg hpl];rfl
    all_goals rw [← hso]
    all_goals exact PA.lp (i + 1, vr, ⟨y.clock, max y.time e.time, y.state, (applyF m y.merged e).2, y.places⟩) xE ⟨⟨hil, hnx, by simp only;rw [hz];exact hst, by simp only;rw [hz];exact hfd⟩, by simp only;omega⟩
  have hact := act_rng heV.1 hk
  have hact2 := heV.2.2 hk
  obtain ⟨a, ha⟩ := get_of (l := m.acts) (i := e.action.toNat) (by omega)
  have hd := dltF_at ha
  have heo := hm.eff a (List.mem_of_getElem? ha)
  have hadd : addE m y.state e = addD y.state a.eff.delta := by rw [addE, if_pos hk, hd]
  repeat' (first|refine Sp.h ?_|refine Lk.r rfl ?_|refine Rf.mk rfl ?_|refine xA ?_|refine xB ?_|refine OpK.r rfl ?_|refine Im.mk fun _=>?_|refine xU ?_|refine xT ?_|(apply Ix.r;(focus assumption);(focus omega))|refine xV ?_|refine xD ?_|fail)
  refine CA.loop (fun k : Nat => ⟨[(0, pm s), (1, ints c), (5, pm b5), (6, .ow vr), (8, pm _), (46, .ow v), (47, it (evl.length : Nat)), (48, it i), (86, terms a.eff.delta), (87, it (a.eff.delta.length : Nat)), (88, it k)], [stoR s m b v w, arrR v 40 13 evl evC, blkR b5 130 (midC { y with time := max y.time e.time } v2), arrR v2 3 1 (addD y.state (a.eff.delta.take k)) intC, arrR vr 40 13 (outL c (evl.take i)) evC, blkR _ 40 (evC e)]⟩) (fun k => k ≤ a.eff.delta.length) (fun k => a.eff.delta.length - k) 0 xE (Nat.zero_le _) ?_
  intro k hk2
  have hlen := addD_length (a.eff.delta.take k) y.state
  by_cases hkl : k < a.eff.delta.length
  ·obtain ⟨p, hp⟩ := get_of hkl
   obtain ⟨p1, p2⟩ := heo.d p (List.mem_of_getElem? hp)
   obtain ⟨z, hz⟩ := get_of (l := addD y.state (a.eff.delta.take k)) (i := p.1.toNat) (by omega)
   have hsd := addD_succ (s := y.state) hp
   rw [show add1 (addD y.state (a.eff.delta.take k)) p = (addD y.state (a.eff.delta.take k)).set p.1.toNat (IntKind.i64.wrap (z + p.2)) by rw [add1, hz];rfl] at hsd
   repeat' (first|refine Sp.h ?_|refine Lk.r rfl ?_|refine Rf.mk rfl ?_|refine xA ?_|refine OpK.r rfl ?_|refine All.mk fun _=>?_|refine xU ?_|refine xT ?_|refine xI ?_|(apply Ix.r;(focus assumption);(focus omega))|refine xJ ?_|refine Ch.l ⟨rfl, rfl⟩ ?_|(apply SetAsk.r;focus repeat' constructor)|refine xN ?_|refine xD ?_|fail)
   refine ⟨?_⟩
   repeat' (first|refine Sp.h ?_|refine Lk.r rfl ?_|refine Rf.mk rfl ?_|refine OpK.r rfl ?_|refine xU ?_|(apply Ix.r;(focus assumption);(focus omega))|refine xJ ?_|refine xV ?_|refine Up.r rfl ?_|refine xO ?_|fail)
   rw [← hsd]
   exact PA.lp (k + 1) xE ⟨hkl, by omega⟩
  ·have hke : k = a.eff.delta.length := by omega
   subst hke
   rw [List.take_length]
   by_cases hpl : 0 < e.place
   ·repeat' (first|refine Sp.h ?_|refine Lk.r rfl ?_|refine Rf.mk rfl ?_|refine xA ?_|refine xB ?_|refine OpK.r rfl ?_|refine xT ?_|refine Ch.l ⟨rfl, rfl⟩ ?_|refine Ch.r ?_|refine xV ?_|refine xD ?_|refine xO ?_|(apply Cl.p (hap);focus (repeat' constructor);done)|(apply Cl.p (hwi);focus (repeat' constructor);done))
    have hz : (⟨y.clock, max y.time e.time, addD y.state a.eff.delta, (applyF m y.merged e).2, withP y.places e.place⟩ : NowS) = cmp1 m y e := by rw [cmp1, hadd, plE, if_pos hpl];rfl
    all_goals rw [← hso]
    all_goals exact PA.lp (i + 1, vr, ⟨y.clock, max y.time e.time, addD y.state a.eff.delta, (applyF m y.merged e).2, withP y.places e.place⟩) xE ⟨⟨hil, hnx, by simp only;rw [hz];exact hst, by simp only;rw [hz];exact hfd⟩, by simp only;omega⟩
   ·repeat' (first|refine Sp.h ?_|refine Lk.r rfl ?_|refine Rf.mk rfl ?_|refine xB ?_|refine OpK.r rfl ?_|refine xT ?_|refine Ch.l ⟨rfl, rfl⟩ ?_|refine Ch.r ?_|refine xV ?_|refine xD ?_|refine xO ?_|(apply Cl.p (hap);focus (repeat' constructor);done)|(apply Cl.p (hwi);focus (repeat' constructor);done))
    have hz : (⟨y.clock, max y.time e.time, addD y.state a.eff.delta, (applyF m y.merged e).2, y.places⟩ : NowS) = cmp1 m y e := by rw [cmp1, hadd, plE, if_neg hpl];rfl
    all_goals rw [← hso]
    all_goals exact PA.lp (i + 1, vr, ⟨y.clock, max y.time e.time, addD y.state a.eff.delta, (applyF m y.merged e).2, y.places⟩) xE ⟨⟨hil, hnx, by simp only;rw [hz];exact hst, by simp only;rw [hz];exact hfd⟩, by simp only;omega⟩
 ·have hie : i = evl.length := by omega
  subst hie
  rw [List.take_length] at hin0 hy ⊢
  have hcl := h1.1.2.2
  have hout : (outL c evl).length ≤ 1000 := by
   have := List.length_filter_le (fun e : EvS => decide (¬ HasC c e.rep e.num)) evl
   unfold outL;omega
  have hF0 : compactF m ⟨b, evl, w⟩ c = (0, ⟨{ y with clock := c }, outL c evl, { w with merged := (outL c evl).foldl (mrg1 m) y.merged }⟩) := by
   refine (@if_neg _ (Classical.propDecidable _) (fun h9 => h9 h1) _ _ _).trans ((@if_neg _ (Classical.propDecidable _) (fun h9 => h9 ⟨h2, h3, hin0⟩) _ _ _).trans ?_)
   rw [cmpB, ← hy]
  rw [hF0]
  repeat' (first|refine Sp.h ?_|refine Lk.r rfl ?_|refine Rf.mk rfl ?_|refine xB ?_|fail)
  (refine Cl.use (hcc) (by repeat' (first|exact Lend.nil|apply Lend.keep|fail)) .nil rfl ?_;rintro _ _ ⟨_, rfl, rfl⟩)
  (repeat' (first|(show CA _ _ (Code.region 26 _ _) _ _;apply Stopped.out)|refine Sp.h ?_|refine Lk.r rfl ?_|refine Rf.mk rfl ?_|refine xT ?_|refine xV ?_|fail));any_goals apply Stopped.mk
  (apply CA.own;(focus (apply OX.blk (b := b5);(focus repeat constructor);(focus (repeat' (first|exact FX.nil|(apply FX.s1;(focus repeat constructor);(focus first|omega|(simp;done)|(simp;omega)))|apply FX.k)));(focus repeat constructor))))
  repeat' (first|refine Sp.h ?_|refine Lk.r rfl ?_|refine Rf.mk rfl ?_|refine xU ?_|refine xT ?_|fail)
  refine CA.loop (fun x : Nat × List MgS => ⟨[(0, pm s), (5, pm b5), (6, .ow vr), (11, mgs x.2), (130, .ow vr), (131, it ((outL c evl).length : Nat)), (132, it x.1)], [stoR s m b v w, arrR v 40 13 evl evC, blkR b5 130 (basC { y with clock := c }), arrR vr 40 13 (outL c evl) evC]⟩)
   (fun x => x.1 ≤ (outL c evl).length ∧ SzM x.2 ∧ x.2 = ((outL c evl).take x.1).foldl (mrg1 m) y.merged) (fun x => (outL c evl).length - x.1) (0, y.merged) xE ⟨Nat.zero_le _, hmid.mg, rfl⟩ ?_
  rintro ⟨j, k⟩ ⟨hj, hkz, hk⟩
  simp only at hj hkz hk
  simp only
  by_cases hjl : j < (outL c evl).length
  ·obtain ⟨e, he⟩ := get_of hjl
   have hap := applyT_p m k e hm
   repeat' (first|refine Sp.h ?_|refine Lk.r rfl ?_|refine Rf.mk rfl ?_|refine xA ?_|refine OpK.r rfl ?_|refine All.mk fun _=>?_|refine xU ?_|refine xT ?_|refine xI ?_|refine xJ ?_|refine Ch.l ⟨rfl, rfl⟩ ?_|refine Ch.r ?_|(apply SetAsk.r;focus repeat' constructor)|refine xN ?_|refine xD ?_|refine xO ?_|(apply Cl.p (hap);focus repeat' constructor))
   all_goals exact PA.lp (j + 1, mrg1 m k e) xE ⟨⟨hjl, mrg1_sz hkz, by simp only;rw [List.take_add_one, he, Option.toList_some, List.foldl_append, ← hk];rfl⟩, by simp only;omega⟩
  ·have hje : j = (outL c evl).length := by omega
   subst hje
   rw [List.take_length] at hk
   have hcm := cloneM_p k (by have := hkz.1;omega) hkz.2
   rw [← hk]
   repeat' (first|refine Sp.h ?_|refine Lk.r rfl ?_|refine Rf.mk rfl ?_|refine xB ?_|refine OpK.r rfl ?_|refine xT ?_|refine Ch.l ⟨rfl, rfl⟩ ?_|refine xV ?_|(apply SetAsk.r;focus repeat' constructor)|refine xN ?_|refine xD ?_|(apply Cl.p (hcm);focus repeat' constructor))
   all_goals exact ⟨_, _, .one (.same (.z)), rfl, vr, rfl⟩
end Go.Proofs.YtajenkpjcbaadaaGreat
namespace Go.Proofs.YtajenkpjcbaadaaGreat
open Go Go.CF
set_option maxRecDepth 20000
/-! ### The model -/
def tC : TblS := ⟨⟨#[99]⟩, 1, [], 0, 9, 0⟩
/-! ### Two events -/
def ca : EvS := ⟨0, 1, 1, [0, 0], 0, 0, 0, 0, 0, 0, 0, 0, 1⟩
def cb : EvS := ⟨1, 1, 1, [0, 0], 0, 1, 0, 0, 0, 0, 0, 0, 1⟩
theorem val2 (a b : Int) (ha : 0 ≤ a ∧ a ≤ 1024) (hb : 0 ≤ b ∧ b ≤ 1024) : ValC [a, b] := ⟨fun x hx => by
 simp only [List.mem_cons, List.not_mem_nil, or_false] at hx
 unfold rngK
 omega, by simp, by simp⟩
theorem ins_2 {a b c d : Int} (h1 : a ≤ c) (h2 : b ≤ d) : Ins [a, b] [c, d] := fun i x y hx hy => by
 match i with
 | 0 => simp at hx hy;omega
 | 1 => simp at hx hy;omega
 | i + 2 => simp at hx
end Go.Proofs.YtajenkpjcbaadaaGreat
namespace Go.Proofs.YtajenkpjcbaadaaGreat
open Go Go.CF
set_option maxRecDepth 20000
theorem ext_nil_ok {l : List EvS} (hc : ClosedE l) (order : List Int) (ho : ∀ x ∈ order, 0 ≤ x ∧ x ≤ 255) : ∃ X, ExtR order [] (ordE l) X ∧ ExtO l X ∧ X.Perm l := ext_ok hc fun x hx => (ho x hx).1
theorem cnt_val {c : List Int} {e : EvS} (hc : ValC c) (hn : 0 ≤ e.num ∧ e.num ≤ 1024) : ValC (cntF c e) := by
 refine ⟨fun z hz => ?_, by simp [cntF];exact hc.2.1, by simp [cntF];exact hc.2.2⟩
 rcases List.mem_or_eq_of_mem_set hz with h|h
 ·exact hc.1 z h
 ·rw [h]
  cases hx : c[e.rep.toNat]? with
  | none => rw [Option.getD_none];unfold rngK;omega
  | some y =>
   have := hc.1 y (List.mem_of_getElem? hx)
   rw [Option.getD_some]
   unfold rngK at *
   omega
theorem now_deliver {m : ModS} {evl : List EvS} {w : NowS} {e : EvS} (hw : NowOK m w) (hp : w.places.length < 100000) (h : (deliverF m evl w e).1 = 0) : NowOK m (deliverF m evl w e).2 := by
 have hv := (deliver_ok' h).2.1.1
 have hf := formed_rep hv
 rw [deliver_st h]
 refine ⟨cnt_val hw.clk ⟨by omega, hv.2.2.2.1⟩, by simp only [addE_len];exact hw.st, (plE_srt hw.pls).1, by have := (plE_srt (e := e) hw.pls).2;simp only;omega⟩
end Go.Proofs.YtajenkpjcbaadaaGreat
namespace Go.Proofs.YtajenkpjcbaadaaGreat
open Go Go.CF
set_option maxRecDepth 20000
abbrev pB (b : Nat) : AV := .val (.pointer (some ⟨b, 0, none⟩))
/-! ### The example -/
theorem v2 (x y : Int) (hx : 0 ≤ x ∧ x ≤ 1024) (hy : 0 ≤ y ∧ y ≤ 1024) : ValC [x, y] ∧ [x, y].length = 2 := ⟨⟨by simp [rngK];omega, by simp, by simp⟩, rfl⟩
end Go.Proofs.YtajenkpjcbaadaaGreat
namespace Go.Proofs.YtajenkpjcbaadaaGreat
open Go Go.CF
set_option maxRecDepth 20000
/-! ### Names -/
theorem uniq_pair {l : List EvS} : Uniq l ↔ l.Pairwise fun a b => nm a ≠ nm b := by
 rw [List.pairwise_iff_getElem]
 constructor
 ·intro h i j hi hj hij he
  have := h i j _ _ (List.getElem?_eq_getElem hi) (List.getElem?_eq_getElem hj) he
  omega
 ·intro h i j a b ha hb he
  obtain ⟨hi, rfl⟩ := List.getElem?_eq_some_iff.1 ha
  obtain ⟨hj, rfl⟩ := List.getElem?_eq_some_iff.1 hb
  rcases Nat.lt_trichotomy i j with h2|h2|h2
  ·exact absurd he (h i j hi hj h2)
  ·exact h2
  ·exact absurd he.symm (h j i hj hi h2)
/-! ### The greatest closed clock -/
/-! ### Clocks of lists -/
/-! ### Cuts -/
end Go.Proofs.YtajenkpjcbaadaaGreat
namespace Go.Proofs.YtajenkpjcbaadaaGreat
open Go Go.CF
set_option maxRecDepth 20000
theorem dname_p (e : EvS) : CallP Tryz.prog 86 [evA' e] (dotC e.rep e.num) := by
 refine CallA.of pg ord86 Tryz.func86 rfl Tryz.ntmps86 Tryz.results86 rfl fun h0 G0 O0 => ?_
 repeat' (first|refine Sp.h ?_|refine Lk.r rfl ?_|refine Rf.mk rfl ?_|refine All.mk fun _=>?_|refine xT ?_|(apply SetAsk.r;focus repeat' constructor)|(apply Fk.r;focus repeat' first|infer_instance|constructor)|refine xN ?_|fail)
 exact Fin.p rfl rfl
theorem dclone_a (e : EvS) (hl : e.past.length ≤ 1000000) : CallA Tryz.prog 89 [evA' e] [] fun r own => ∃ v, r = .agg [iv e.rep, iv e.num, iv e.time, .ow v, iv e.kind, iv e.action, iv e.gk, iv e.gi, iv e.ge, iv e.ga, iv e.to, iv e.place, iv e.serial] ∧ own = [arrR v 3 1 e.past intC] := by
 have h := clone_o e.past (by omega)
 refine CallA.of pg ord89 Tryz.func89 rfl Tryz.ntmps89 Tryz.results89 rfl fun h0 G0 O0 => ?_
 repeat' (first|refine Sp.h ?_|refine Lk.r rfl ?_|refine Rf.mk rfl ?_|refine All.mk fun _=>?_|refine xT ?_|refine xN ?_|fail)
 (refine Cl.use (h) (by repeat' (first|exact Lend.nil|apply Lend.keep|fail)) .nil rfl ?_;rintro _ _ ⟨_, rfl, rfl⟩)
 repeat' (first|refine Sp.h ?_|refine Lk.r rfl ?_|refine Rf.mk rfl ?_|refine xT ?_|refine Ch.l ⟨rfl, rfl⟩ ?_|refine xV ?_|(apply SetAsk.r;focus repeat' constructor)|refine xN ?_|fail)
 exact ⟨_, _, .one (.same (.z)), _, rfl, rfl⟩
theorem dclone_p (e : EvS) (hl : e.past.length ≤ 1000000) : CallP Tryz.prog 89 [evA' e] (evA' e) :=
 CallA.fx (dclone_a e hl) fun _ _ ⟨_, e1, e2⟩ => by
  subst e1;subst e2
  refine FX.agg (cs' := [iv e.rep, iv e.num, iv e.time, ints e.past, iv e.kind, iv e.action, iv e.gk, iv e.gi, iv e.ge, iv e.ga, iv e.to, iv e.place, iv e.serial]) ?_ .nil
  (repeat' (first|exact FX.nil|(apply FX.s1;(focus repeat constructor);(focus first|omega|(simp;done)|(simp;omega)))|apply FX.k))
abbrev bufB (b : Nat) (vc : Value) (mb : Nat) : Res := blkR b 159 [.ow vc, .val (.map (some mb))]
abbrev heldR (mb : Nat) (H : List (List Int × EvS)) : Res := mapR Tryz.prog mb 70 H evA'
abbrev clkR (vc : Value) (c : List Int) : Res := arrR vc 3 1 c intC
structure HldOK (N : Nat) (H : List (List Int × EvS)) : Prop where
 rep : ∀ p ∈ H, 0 ≤ p.2.rep ∧ p.2.rep < (N : Int)
 key : ∀ p ∈ H, p.1 = [p.2.rep, p.2.num]
 fm : ∀ p ∈ H, p.2.past.length ≤ 5
 len : H.length ≤ 300
 nd : Uniq (H.map (·.2))
theorem uniq_perm {l l' : List EvS} (hp : l.Perm l') (h : Uniq l) : Uniq l' := uniq_pair.2 ((hp.pairwise_iff fun h9 h8 => h9 h8.symm).1 (uniq_pair.1 h))
theorem dlist_a (b : Nat) (vc : Value) (mb : Nat) (c : List Int) (H : List (List Int × EvS)) {N : Nat} (h : HldOK N H) : CallA Tryz.prog 128 [pm b] [bufB b vc mb, clkR vc c, heldR mb H] fun r own => r = evs (ordE (H.map (·.2))) ∧ own = [bufB b vc mb, clkR vc c, heldR mb H] := by
 refine CallA.of pg ord128 Tryz.func128 rfl Tryz.ntmps128 Tryz.results128 rfl fun h0 G0 O0 => ?_
 repeat' (first|refine Sp.h ?_|refine Lk.r rfl ?_|refine Rf.mk rfl ?_|refine All.mk fun _=>?_|refine xT ?_|refine xM ?_|fail)
 rename_i r
 refine CA.nilOwn 3 40 13 evC rfl fun v0 => ?_
 refine CA.loop (fun x : List (List Int × EvS) × List EvS × Value × Option (List Int × EvS) => ⟨[(3, .ow x.2.2.1), (10, pm r)], [itcR Tryz.prog mb r 70 H x.1 evA' x.2.2.2, arrR x.2.2.1 40 13 x.2.1 evC, bufB b vc mb, clkR vc c]⟩)
  (fun x => (x.2.1 ++ x.1.map (·.2)).Perm (H.map (·.2))) (fun x => x.1.length) (H, [], v0, none) xE (List.Perm.refl _) ?_
 rintro ⟨rem, L, v, cur⟩ hp
 simp only at hp
 have hlen := hp.length_eq
 simp only [List.length_append, List.length_map] at hlen
 have hH := h.len
 repeat' (first|refine Sp.h ?_|refine Lk.r rfl ?_|refine Rf.mk rfl ?_|(apply TkJ.r;(focus repeat constructor))|(apply NxK.mk)|fail)
 ·intro p rem' hpr
  have hmem : p ∈ rem := hpr.mem_iff.1 (by simp)
  have hpm : p.2 ∈ H.map (·.2) := hp.mem_iff.1 (List.mem_append_right _ (List.mem_map_of_mem hmem))
  obtain ⟨p0, hp0, hp1⟩ := List.mem_map.1 hpm
  have hcl := dclone_p p.2 (by have := h.fm p0 hp0;rw [hp1] at this;omega)
  repeat' (first|refine Sp.h ?_|refine Lk.r rfl ?_|refine Rf.mk rfl ?_|refine xP ?_|refine All.mk fun _=>?_|refine xU ?_|refine xT ?_|refine Ce.r ?_|refine Ch.l ⟨rfl, rfl⟩ ?_|(apply SetAsk.r;focus repeat' constructor)|(apply Fk.r;focus repeat' first|infer_instance|constructor)|refine xN ?_|refine Rf.mk ⟨rfl, rfl⟩ ?_|refine Rf.mk ⟨rfl, rfl, rfl⟩ ?_|(apply Mp.lit;(focus repeat (first|exact MpL.nil|(apply MpL.cons;(focus rfl))|(apply MpL.inv;(focus repeat constructor);(focus infer_instance)))))|(apply TkE.r;(focus repeat constructor))|(apply Cl.p (hcl);focus repeat' constructor))
  refine PA.lp (rem', L ++ [p.2], _, some p) xE ⟨?_, ?_⟩
  ·simp only
   rw [List.append_assoc]
   refine List.Perm.trans (List.Perm.append_left L ?_) hp
   simpa using hpr.map (·.2)
  ·have := hpr.length_eq
   simp only [List.length_cons] at this ⊢
   omega
 ·intro hn
  subst hn
  simp only [List.map_nil, List.append_nil] at hp
  have hu : Uniq L := uniq_perm hp.symm h.nd
  have hord := order_p L hu (by have := hp.length_eq;simp at this;omega)
  have hoe : ordE L = ordE (H.map (·.2)) := ordE_uniq h.nd (hp.symm.trans (ordE_perm L)) (ordE_srt L)
  rw [hoe] at hord
  (repeat' (first|(show CA _ _ (Code.region 6 _ _) _ _;apply Stopped.out)|refine Sp.h ?_|refine Lk.r rfl ?_|fail));any_goals apply Stopped.mk
  apply CA.own (OX.itc (by repeat constructor))
  apply CA.freeze 3
  focus rfl
  focus (repeat constructor)
  focus (simp only [List.length_nil, Nat.add_zero] at hlen;simp only;omega)
  repeat' (first|refine Sp.h ?_|refine Lk.r rfl ?_|refine Rf.mk rfl ?_|refine xN ?_|(apply Cl.p (hord);focus repeat' constructor))
  exact ⟨_, [bufB b vc mb, clkR vc c, heldR mb H], .one (.same (.z)), rfl, rfl⟩
end Go.Proofs.YtajenkpjcbaadaaGreat
namespace Go.Proofs.YtajenkpjcbaadaaGreat
open Go Go.CF
set_option maxRecDepth 20000
def RdyE (c : List Int) (e : EvS) : Prop := ¬ HasC c e.rep e.num ∧ (AlikeC [c, e.past] → Ins e.past c)
noncomputable instance (c : List Int) (e : EvS) : Decidable (RdyE c e) := Classical.propDecidable _
theorem dready_p (c : List Int) (M : Value) (e : EvS) : CallP Tryz.prog 87 [.ad [ints c, .val M] 0, evA' e] (bl (decide (RdyE c e))) := by
 have h1 := dname_p e
 have h2 := hasC_p c e.rep e.num
 have h3 := missing_o c e.past
 refine CallA.of pg ord87 Tryz.func87 rfl Tryz.ntmps87 Tryz.results87 rfl fun h0 G0 O0 => ?_
 repeat' (first|refine Sp.h ?_|refine Lk.r rfl ?_|refine Rf.mk rfl ?_|refine xA ?_|refine xB ?_|(refine Bd.mk ?_ ?_ <;> intro _)|refine OpK.r rfl ?_|refine All.mk fun _=>?_|refine xT ?_|refine Ch.l ⟨rfl, rfl⟩ ?_|refine xN ?_|refine xD ?_|(apply Cl.p (h1);focus (repeat' constructor);done)|(apply Cl.p (h2);focus (repeat' constructor);done))
 ·rename_i hh
  exact Fin.p rfl (vb (decide_eq_false fun h => h.1 hh).symm)
 ·rename_i hh
  refine xW (h3) ?_
  rintro _ _ ⟨v, sp, rfl, rfl, g1, g2⟩
  repeat' (first|refine Sp.h ?_|refine Lk.r rfl ?_|refine xB ?_|refine OpK.r rfl ?_|refine xU ?_|refine xN ?_|fail)
  refine Fin.p rfl (vb (decide_eq_decide.2 ?_))
  constructor
  ·intro h9
   exact ⟨hh, g1.1 (List.eq_nil_of_length_eq_zero (by omega))⟩
  ·intro h9
   rw [g1.2 h9.2];rfl
theorem dindex_a (b : Nat) (vc : Value) (mb : Nat) (c : List Int) (hc : c.length ≤ 1000000) (l : List EvS) : CallA Tryz.prog 147 [evs l, .fb 87 [pm b]] [bufB b vc mb, clkR vc c] fun r own => r = it (idxI (fun e => decide (RdyE c e)) l) ∧ own = [bufB b vc mb, clkR vc c] := by
 refine CallA.of pg ord147 Tryz.func147 rfl Tryz.ntmps147 Tryz.results147 rfl fun h0 G0 O0 => ?_
 repeat' (first|refine Sp.h ?_|refine Lk.r rfl ?_|refine Rf.mk rfl ?_|refine Im.mk fun _=>?_|fail)
 rename_i hll
 refine CA.loop (fun i : Nat => ⟨[(0, evs l), (1, .fb 87 [pm b]), (7, .val (.int .i64 l.length)), (8, .val (.int .i64 i))], [bufB b vc mb, clkR vc c]⟩)
  (fun i => i ≤ l.length ∧ ∀ j y, j < i → l[j]? = some y → decide (RdyE c y) = false) (fun i => l.length - i) 0 xE ⟨Nat.zero_le _, fun j y h => by omega⟩ ?_
 rintro i ⟨hi, hj⟩
 by_cases hin : i < l.length
 ·obtain ⟨e, hx⟩ := get_of hin
  have hr := dready_p c (.map (some mb)) e
  repeat' (first|refine Sp.h ?_|refine Lk.r rfl ?_|refine Rf.mk rfl ?_|refine xA ?_|refine xI ?_|refine Ch.l ⟨rfl, rfl⟩ ?_|fail)
  (apply Cl.lend (hr);(focus repeat' (first|exact Lend.nil|apply Lend.keep|(apply Lend.lend;(focus repeat constructor);(focus first|omega|(simp;omega)))|(apply Lend.cell;(focus repeat constructor))|fail)))
  repeat' (first|refine Sp.h ?_|refine Lk.r rfl ?_|refine Rf.mk rfl ?_|(refine Bd.mk ?_ ?_ <;> intro _)|refine xN ?_|refine xO ?_|fail)
  ·rename_i hp
   exact ⟨_, [bufB b vc mb, clkR vc c], .one (.same (.z)), by rw [idxI, idxN_of hx (decide_eq_true hp) hj, if_pos hin], rfl⟩
  ·rename_i hp
   refine PA.lp (i + 1) xE ⟨⟨hin, fun j y h1 h2 => ?_⟩, by omega⟩
   by_cases hij : j = i
   ·subst hij;rw [hx] at h2;cases h2;exact decide_eq_false hp
   ·exact hj j y (by omega) h2
 ·repeat' (first|refine Sp.h ?_|refine Lk.r rfl ?_|refine Rf.mk rfl ?_|refine xB ?_|refine xN ?_|fail)
  exact ⟨_, [bufB b vc mb, clkR vc c], .one (.same (.z)), by rw [idxI, idxN_none (fun x hx => by obtain ⟨j, hx⟩ := List.getElem?_of_mem hx;exact hj j x (by have := (List.getElem?_eq_some_iff.1 hx).1;omega) hx), if_neg (by omega)], rfl⟩
end Go.Proofs.YtajenkpjcbaadaaGreat
namespace Go.Proofs.YtajenkpjcbaadaaGreat
open Go Go.CF
set_option maxRecDepth 20000
theorem ddeliver_a (b : Nat) (vc : Value) (mb : Nat) (c : List Int) (H : List (List Int × EvS)) (e : EvS) (x : Int) (h0' : 0 ≤ e.rep) (hx : c[e.rep.toNat]? = some x) : CallA Tryz.prog 88 [pm b, evA' e] [bufB b vc mb, clkR vc c, heldR mb H] fun r own => r = .tup [] ∧ own = [bufB b vc mb, clkR vc (cntF c e), heldR mb (delL H [e.rep, e.num])] := by
 obtain ⟨q, hq⟩ : ∃ q : Nat, e.rep = q := ⟨e.rep.toNat, by omega⟩
 have hx' : c[q]? = some x := by rw [hq, Int.toNat_natCast] at hx;exact hx
 have hql := (List.getElem?_eq_some_iff.1 hx').1
 have h1 := dname_p e
 have hcn : cntF c e = c.set q (max x e.num) := by rw [cntF, hq, Int.toNat_natCast, hx', Option.getD_some]
 rw [hcn]
 refine CallA.of pg ord88 Tryz.func88 rfl Tryz.ntmps88 Tryz.results88 rfl fun h0 G0 O0 => ?_
 repeat' (first|refine Sp.h ?_|refine Lk.r rfl ?_|refine Rf.mk rfl ?_|refine OpK.r rfl ?_|refine All.mk fun _=>?_|refine xU ?_|refine xT ?_|(apply Ix.r;(focus assumption);(focus omega))|refine xJ ?_|refine Ch.l ⟨rfl, rfl⟩ ?_|refine xV ?_|refine xN ?_|refine Up.r rfl ?_|refine xK ?_|(apply Kf.mk;(focus kernel_rfl))|refine xM ?_|refine xD ?_|(apply Cl.p (h1);focus (repeat' constructor);done))
 exact ⟨_, [bufB b vc mb, clkR vc (c.set q (max x e.num)), heldR mb (delL H [e.rep, e.num])], .tup (.z), rfl, rfl⟩
theorem delL_sub {β : Type} (k : List Int) : ∀ H : List (List Int × β), (delL H k).Sublist H
 | [] => .slnil
 | p :: H => by
  simp only [delL]
  split
  ·exact List.sublist_cons_self _ _
  ·exact (delL_sub k H).cons_cons _
theorem delL_len {β : Type} {k : List Int} : ∀ {H : List (List Int × β)}, (∃ p ∈ H, p.1 = k) → (delL H k).length + 1 = H.length
 | [], h => by obtain ⟨p, hp, _⟩ := h;cases hp
 | p :: H, h => by
  simp only [delL]
  split
  ·simp
  ·rename_i hne
   obtain ⟨r, hr, hk⟩ := h
   have : ∃ p ∈ H, p.1 = k := by
    rcases List.mem_cons.1 hr with rfl|hr
    ·exact absurd hk hne
    ·exact ⟨r, hr, hk⟩
   have := delL_len this
   simp;omega
theorem HldOK.del {N : Nat} {H : List (List Int × EvS)} (h : HldOK N H) (k : List Int) : HldOK N (delL H k) := by
 have hs := delL_sub k H
 refine ⟨fun p hp => h.rep p (hs.mem hp), fun p hp => h.key p (hs.mem hp), fun p hp => h.fm p (hs.mem hp), Nat.le_trans hs.length_le h.len, ?_⟩
 exact uniq_pair.2 (List.Pairwise.sublist (hs.map _) (uniq_pair.1 h.nd))
noncomputable def rdyB (c : List Int) (e : EvS) : Bool := decide (RdyE c e)
noncomputable def stlF : Nat → List Int → List (List Int × EvS) → List EvS → List EvS × List Int × List (List Int × EvS)
 | 0, c, H, out => (out, c, H)
 | n + 1, c, H, out => match (ordE (H.map (·.2)))[idxN (rdyB c) (ordE (H.map (·.2)))]? with
  | none => (out, c, H)
  | some e => stlF n (cntF c e) (delL H [e.rep, e.num]) (out ++ [e])
set_option maxHeartbeats 2000000 in
theorem dsettle_a (b : Nat) (vc : Value) (mb : Nat) (c : List Int) (H : List (List Int × EvS)) (h : HldOK c.length H) (hc : c.length ≤ 10) : CallA Tryz.prog 90 [pm b] [bufB b vc mb, clkR vc c, heldR mb H] fun r own => ∃ v, r = .ow v ∧ own = [arrR v 40 13 (stlF (H.length + 1) c H []).1 evC, bufB b vc mb, clkR vc (stlF (H.length + 1) c H []).2.1, heldR mb (stlF (H.length + 1) c H []).2.2] := by
 obtain ⟨res, hres⟩ : ∃ res, res = stlF (H.length + 1) c H [] := ⟨_, rfl⟩
 rw [← hres]
 have hH := h.len
 refine CallA.of pg ord90 Tryz.func90 rfl Tryz.ntmps90 Tryz.results90 rfl fun h0 G0 O0 => ?_
 repeat' (first|refine Sp.h ?_|refine Lk.r rfl ?_|refine Rf.mk rfl ?_|fail)
 refine CA.nilOwn 3 40 13 evC rfl fun v0 => ?_
 refine CA.loop (fun x : Nat × List Int × List (List Int × EvS) × List EvS × Value => ⟨[(0, pm b), (3, .ow x.2.2.2.2)], [arrR x.2.2.2.2 40 13 x.2.2.2.1 evC, bufB b vc mb, clkR vc x.2.1, heldR mb x.2.2.1]⟩)
  (fun x => HldOK c.length x.2.2.1 ∧ x.2.1.length = c.length ∧ x.2.2.1.length + 1 = x.1 ∧ x.2.2.2.1.length + x.2.2.1.length = H.length ∧ res = stlF x.1 x.2.1 x.2.2.1 x.2.2.2.1) (fun x => x.1) (H.length + 1, c, H, [], v0) xE ⟨h, rfl, rfl, by simp, hres⟩ ?_
 rintro ⟨n, d, K, out, v⟩ ⟨hK, hd, hn, hlen, hr⟩
 simp only at hK hd hn hlen hr
 simp only
 have hl := dlist_a b vc mb d K hK
 have hix := dindex_a b vc mb d (by omega) (ordE (K.map (·.2)))
 repeat' (first|refine Sp.h ?_|refine Lk.r rfl ?_|refine Rf.mk rfl ?_|fail)
 refine xW (hl) ?_
 rintro _ _ ⟨rfl, rfl⟩
 repeat' (first|refine Sp.h ?_|refine Lk.r rfl ?_|refine Rf.mk rfl ?_|fail)
 refine xW (hix) ?_
 rintro _ _ ⟨rfl, rfl⟩
 subst hn
 by_cases hi : idxN (rdyB d) (ordE (K.map (·.2))) < (ordE (K.map (·.2))).length
 ·have hI : idxI (fun e => decide (RdyE d e)) (ordE (K.map (·.2))) = (idxN (rdyB d) (ordE (K.map (·.2))) : Nat) := if_pos hi
  rw [hI]
  obtain ⟨e, he⟩ := get_of hi
  have hem : e ∈ K.map (·.2) := (ordE_perm _).mem_iff.2 (List.mem_of_getElem? he)
  obtain ⟨p, hp, rfl⟩ := List.mem_map.1 hem
  have hrp := hK.rep p hp
  obtain ⟨x, hx⟩ := get_of (l := d) (i := p.2.rep.toNat) (by omega)
  have hdv := ddeliver_a b vc mb d K p.2 x hrp.1 hx
  have hdl := delL_len (k := [p.2.rep, p.2.num]) ⟨p, hp, hK.key p hp⟩
  have hr2 : res = stlF K.length (cntF d p.2) (delL K [p.2.rep, p.2.num]) (out ++ [p.2]) := by
   rw [hr];simp only [stlF, he]
  repeat' (first|refine Sp.h ?_|refine Lk.r rfl ?_|refine Rf.mk rfl ?_|refine xB ?_|refine xI ?_|refine Ch.l ⟨rfl, rfl⟩ ?_|fail)
  refine xW (hdv) ?_
  rintro _ _ ⟨rfl, rfl⟩
  repeat' (first|refine Sp.h ?_|refine Lk.r rfl ?_|refine Rf.mk rfl ?_|refine xP ?_|refine All.mk fun _=>?_|refine xU ?_|refine xI ?_|refine Ce.r ?_|refine Ch.l ⟨rfl, rfl⟩ ?_|(apply Fk.r;focus repeat' first|infer_instance|constructor)|refine Rf.mk ⟨rfl, rfl⟩ ?_|refine Rf.mk ⟨rfl, rfl, rfl⟩ ?_|(apply Mp.lit;(focus repeat (first|exact MpL.nil|(apply MpL.cons;(focus rfl))|(apply MpL.inv;(focus repeat constructor);(focus infer_instance)))))|fail)
  refine PA.lp (K.length, cntF d p.2, delL K [p.2.rep, p.2.num], out ++ [p.2], _) xE ⟨⟨hK.del _, by simp only [cntF, List.length_set];exact hd, hdl, ?_, hr2⟩, ?_⟩
  ·simp only [List.length_append, List.length_cons, List.length_nil]
   omega
  ·simp only
   omega
 ·have hI : idxI (fun e => decide (RdyE d e)) (ordE (K.map (·.2))) = -1 := if_neg hi
  rw [hI]
  have hr2 : res = (out, d, K) := by
   rw [hr];simp only [stlF, List.getElem?_eq_none (Nat.le_of_not_lt hi)]
  rw [hr2]
  repeat' (first|refine Sp.h ?_|refine Lk.r rfl ?_|refine Rf.mk rfl ?_|refine xA ?_|refine xN ?_|fail)
  exact ⟨_, [arrR v 40 13 out evC, bufB b vc mb, clkR vc d, heldR mb K], .one (.same (.z)), _, rfl, rfl⟩
end Go.Proofs.YtajenkpjcbaadaaGreat
namespace Go.Proofs.YtajenkpjcbaadaaGreat
open Go Go.CF
set_option maxRecDepth 20000
noncomputable def addB (c : List Int) (H : List (List Int × EvS)) (e : EvS) : Int × List EvS × List Int × List (List Int × EvS) :=
 if ¬ FormedE e ∨ e.past.length ≠ c.length then (1, [], c, H)
 else if (lookL H [e.rep, e.num]).isSome = true ∨ HasC c e.rep e.num then (6, [], c, H)
 else if RdyE c e then (0, e :: (stlF ((delL H [e.rep, e.num]).length + 1) (cntF c e) (delL H [e.rep, e.num]) []).1, (stlF ((delL H [e.rep, e.num]).length + 1) (cntF c e) (delL H [e.rep, e.num]) []).2)
 else if 256 ≤ H.length then (8, [], c, H)
 else (0, [], c, updL H [e.rep, e.num] e)
theorem stlF_len : ∀ (n : Nat) (c : List Int) (H : List (List Int × EvS)) (out : List EvS), (stlF n c H out).1.length ≤ out.length + n
 | 0, _, _, _ => Nat.le_refl _
 | n + 1, c, H, out => by
  simp only [stlF]
  split
  ·exact Nat.le_add_right _ _
  ·have := stlF_len n (cntF c ‹_›) (delL H [(‹_› : EvS).rep, (‹_› : EvS).num]) (out ++ [‹_›])
   simp only [List.length_append, List.length_cons, List.length_nil] at this
   omega
theorem mpl_id (f : EvS → List AV) : ∀ l : List EvS, MpL f id l (l.map f)
 | [] => .nil
 | _ :: l => .cons rfl (mpl_id f l)
abbrev AddN (b : Nat) (vc : Value) (mb : Nat) (c : List Int) (H : List (List Int × EvS)) (k : Int) : AV → List Res → Prop := fun r own => r = .tup [nl0, it k] ∧ own = [bufB b vc mb, clkR vc c, heldR mb H]
theorem addN_x {b : Nat} {vc : Value} {mb : Nat} {c : List Int} {H : List (List Int × EvS)} {k : Int} {xs : List AV} {own : List Res} (h : CallA Tryz.prog 42 xs own (AddN b vc mb c H k)) :
  CallA Tryz.prog 42 xs own fun r own => r = .tup [evs [], it k] ∧ own = [bufB b vc mb, clkR vc c, heldR mb H] :=
 CallA.fxr h (by rintro _ _ ⟨rfl, rfl⟩;exact ⟨_, _, .tup (.kn (.k .nil)) .nil, rfl, rfl⟩)
set_option maxHeartbeats 8000000 in
theorem dadd_a (b : Nat) (vc : Value) (mb : Nat) (c : List Int) (H : List (List Int × EvS)) (e : EvS) (h : HldOK c.length H) (hc : c.length ≤ 10) : CallA Tryz.prog 42 [pm b, evA' e] [bufB b vc mb, clkR vc c, heldR mb H] fun r own => r = .tup [evs (addB c H e).2.1, it (addB c H e).1] ∧ own = [bufB b vc mb, clkR vc (addB c H e).2.2.1, heldR mb (addB c H e).2.2.2] := by
 have h1 := dname_p e
 have h2 := formed_p e
 have h3 := hasC_p c e.rep e.num
 have h4 := dready_p c (.map (some mb)) e
 have hH := h.len
 by_cases k1 : ¬ FormedE e ∨ e.past.length ≠ c.length
 ·have hr : addB c H e = (1, [], c, H) := if_pos k1
  rw [hr]
  refine addN_x ?_
  by_cases k0 : FormedE e
  ·have k2 : ¬ (e.past.length : Int) = (c.length : Int) := by
    rcases k1 with k1|k1
    ·exact absurd k0 k1
    ·omega
   cases hlk : lookL H [e.rep, e.num]
   all_goals refine CallA.of pg ord42 Tryz.func42 rfl Tryz.ntmps42 Tryz.results42 rfl fun h0 G0 O0 => ?_
   all_goals repeat' (first|refine Sp.h ?_|refine Lk.r rfl ?_|refine Rf.mk rfl ?_|refine xA ?_|refine xB ?_|refine OpK.r rfl ?_|refine Im.mk fun _=>?_|refine All.mk fun _=>?_|refine xU ?_|refine xT ?_|refine Ch.l ⟨rfl, rfl⟩ ?_|(apply SetAsk.r;focus repeat' constructor)|refine xN ?_|refine xK ?_|(apply Kf.mk;(focus kernel_rfl))|refine xM ?_|(apply Zx.agg;(focus rfl);(focus rfl);(focus repeat constructor))|(apply LkM.s;(focus first|assumption|rfl))|(apply LkM.n;(focus first|assumption|rfl))|refine xD ?_|exact trivial|apply RA'.both|(apply Cl.p (h1);focus (repeat' constructor);done)|(apply Cl.p (h2);focus (repeat' constructor);done)|(apply Cl.p (h2);focus (repeat' constructor);done)|(apply Cl.lend (h3);focus (repeat' constructor);done)|(apply Cl.lend (h4);focus (repeat' constructor);done)|(apply Cl.lend (h4);focus (repeat' constructor);done))
   all_goals exact ⟨_, [bufB b vc mb, clkR vc c, heldR mb H], .tup (.same (.same (.z))), rfl, rfl⟩
  ·cases hlk : lookL H [e.rep, e.num]
   all_goals refine CallA.of pg ord42 Tryz.func42 rfl Tryz.ntmps42 Tryz.results42 rfl fun h0 G0 O0 => ?_
   all_goals repeat' (first|refine Sp.h ?_|refine Lk.r rfl ?_|refine Rf.mk rfl ?_|refine xB ?_|refine OpK.r rfl ?_|refine All.mk fun _=>?_|refine xT ?_|refine Ch.l ⟨rfl, rfl⟩ ?_|(apply SetAsk.r;focus repeat' constructor)|refine xN ?_|refine xK ?_|(apply Kf.mk;(focus kernel_rfl))|refine xM ?_|(apply Zx.agg;(focus rfl);(focus rfl);(focus repeat constructor))|(apply LkM.s;(focus first|assumption|rfl))|(apply LkM.n;(focus first|assumption|rfl))|refine xD ?_|exact trivial|apply RA'.both|(apply Cl.p (h1);focus (repeat' constructor);done)|(apply Cl.p (h2);focus (repeat' constructor);done)|(apply Cl.p (h2);focus (repeat' constructor);done)|(apply Cl.lend (h3);focus (repeat' constructor);done)|(apply Cl.lend (h4);focus (repeat' constructor);done)|(apply Cl.lend (h4);focus (repeat' constructor);done))
   all_goals exact ⟨_, [bufB b vc mb, clkR vc c, heldR mb H], .tup (.same (.same (.z))), rfl, rfl⟩
 have k0 : FormedE e := Decidable.not_not.1 fun h9 => k1 (.inl h9)
 have k2 : e.past.length = c.length := Decidable.not_not.1 fun h9 => k1 (.inr h9)
 have k3 : (e.past.length : Int) = (c.length : Int) := by omega
 by_cases q1 : (lookL H [e.rep, e.num]).isSome = true ∨ HasC c e.rep e.num
 ·have hr : addB c H e = (6, [], c, H) := by rw [addB, if_neg k1, if_pos q1]
  rw [hr]
  refine addN_x ?_
  cases hlk : lookL H [e.rep, e.num] with
  | none =>
   have q2 : HasC c e.rep e.num := by
    rcases q1 with q1|q1
    ·rw [hlk] at q1;cases q1
    ·exact q1
   refine CallA.of pg ord42 Tryz.func42 rfl Tryz.ntmps42 Tryz.results42 rfl fun h0 G0 O0 => ?_
   repeat' (first|refine Sp.h ?_|refine Lk.r rfl ?_|refine Rf.mk rfl ?_|refine xA ?_|refine OpK.r rfl ?_|refine Im.mk fun _=>?_|refine All.mk fun _=>?_|refine xU ?_|refine xT ?_|refine Ch.l ⟨rfl, rfl⟩ ?_|(apply SetAsk.r;focus repeat' constructor)|refine xN ?_|refine xK ?_|(apply Kf.mk;(focus kernel_rfl))|refine xM ?_|(apply Zx.agg;(focus rfl);(focus rfl);(focus repeat constructor))|(apply LkM.n;(focus first|assumption|rfl))|refine xD ?_|exact trivial|apply RA'.both|(apply Cl.p (h1);(focus ((repeat' (first|exact Lend.nil|apply Lend.keep|(apply Lend.lend;(focus repeat constructor);(focus first|omega|(simp;omega)))|fail));done)))|(apply Cl.p (h2);(focus ((repeat' (first|exact Lend.nil|apply Lend.keep|(apply Lend.lend;(focus repeat constructor);(focus first|omega|(simp;omega)))|fail));done)))|(apply Cl.p (h2);(focus ((repeat' (first|exact Lend.nil|apply Lend.keep|(apply Lend.lend;(focus repeat constructor);(focus first|omega|(simp;omega)))|fail));done)))|(apply Cl.lend (h3);(focus ((repeat' (first|exact Lend.nil|apply Lend.keep|(apply Lend.lend;(focus repeat constructor);(focus first|omega|(simp;omega)))|fail));done)))|(apply Cl.lend (h4);(focus ((repeat' (first|exact Lend.nil|apply Lend.keep|(apply Lend.lend;(focus repeat constructor);(focus first|omega|(simp;omega)))|fail));done)))|(apply Cl.lend (h4);(focus ((repeat' (first|exact Lend.nil|apply Lend.keep|(apply Lend.lend;(focus repeat constructor);(focus first|omega|(simp;omega)))|fail));done))))
   all_goals exact ⟨_, [bufB b vc mb, clkR vc c, heldR mb H], .tup (.same (.same (.z))), rfl, rfl⟩
  | some v =>
   refine CallA.of pg ord42 Tryz.func42 rfl Tryz.ntmps42 Tryz.results42 rfl fun h0 G0 O0 => ?_
   repeat' (first|refine Sp.h ?_|refine Lk.r rfl ?_|refine Rf.mk rfl ?_|refine xA ?_|refine OpK.r rfl ?_|refine Im.mk fun _=>?_|refine All.mk fun _=>?_|refine xU ?_|refine xT ?_|refine Ch.l ⟨rfl, rfl⟩ ?_|(apply SetAsk.r;focus repeat' constructor)|refine xN ?_|refine xK ?_|(apply Kf.mk;(focus kernel_rfl))|refine xM ?_|(apply LkM.s;(focus first|assumption|rfl))|refine xD ?_|exact trivial|apply RA'.both|(apply Cl.p (h1);focus (repeat' constructor);done)|(apply Cl.p (h2);focus (repeat' constructor);done)|(apply Cl.p (h2);focus (repeat' constructor);done)|(apply Cl.lend (h3);focus (repeat' constructor);done)|(apply Cl.lend (h4);focus (repeat' constructor);done)|(apply Cl.lend (h4);focus (repeat' constructor);done))
   all_goals exact ⟨_, [bufB b vc mb, clkR vc c, heldR mb H], .tup (.same (.same (.z))), rfl, rfl⟩
 have q2 : ¬ HasC c e.rep e.num := fun h9 => q1 (.inr h9)
 have hlk : lookL H [e.rep, e.num] = none := by
  cases h9 : lookL H [e.rep, e.num] with
  | none => rfl
  | some v => exact absurd (.inl (by rw [h9];rfl)) q1
 have hcl := dclone_p e (by have := k0.1.2;omega)
 by_cases q3 : RdyE c e
 ·obtain ⟨S, hS⟩ : ∃ S, S = stlF ((delL H [e.rep, e.num]).length + 1) (cntF c e) (delL H [e.rep, e.num]) [] := ⟨_, rfl⟩
  have hr : addB c H e = (0, e :: S.1, S.2) := by rw [addB, if_neg k1, if_neg q1, if_pos q3, hS]
  rw [hr]
  obtain ⟨y, hy, _⟩ := k0.2.2.1
  obtain ⟨x, hx⟩ := get_of (l := c) (i := e.rep.toNat) (by rw [← k2];exact (List.getElem?_eq_some_iff.1 hy).1)
  have hd := ddeliver_a b vc mb c H e x k0.2.1 hx
  have hcl2 : (cntF c e).length = c.length := by simp only [cntF, List.length_set]
  have hs := dsettle_a b vc mb (cntF c e) (delL H [e.rep, e.num]) (by rw [hcl2];exact h.del _) (by omega)
  rw [← hS] at hs
  have hSl : S.1.length ≤ 1000 := by
   have h9 := stlF_len ((delL H [e.rep, e.num]).length + 1) (cntF c e) (delL H [e.rep, e.num]) []
   rw [← hS] at h9
   have h8 := (delL_sub [e.rep, e.num] H).length_le
   simp only [List.length_nil] at h9
   omega
  refine CallA.fxr (K := fun r own => ∃ v, r = .tup [.ow v, it 0] ∧ own = [arrR v 40 13 (e :: S.1) evC, bufB b vc mb, clkR vc S.2.1, heldR mb S.2.2]) ?_ (by rintro _ _ ⟨v, rfl, rfl⟩;exact ⟨_, _, .tup (.s1 .here (by simp;omega) (.k .nil)) .nil, rfl, rfl⟩)
  refine CallA.of pg ord42 Tryz.func42 rfl Tryz.ntmps42 Tryz.results42 rfl fun h0 G0 O0 => ?_
  repeat' (first|refine Sp.h ?_|refine Lk.r rfl ?_|refine Rf.mk rfl ?_|refine xA ?_|refine xB ?_|refine OpK.r rfl ?_|refine Im.mk fun _=>?_|refine All.mk fun _=>?_|refine xU ?_|refine xT ?_|refine Ch.l ⟨rfl, rfl⟩ ?_|(apply SetAsk.r;focus repeat' constructor)|refine xN ?_|refine xK ?_|(apply Kf.mk;(focus kernel_rfl))|refine xM ?_|(apply Zx.agg;(focus rfl);(focus rfl);(focus repeat constructor))|(apply LkM.n;(focus first|assumption|rfl))|refine xD ?_|exact trivial|apply RA'.both|(apply Cl.p (h1);(focus ((repeat' (first|exact Lend.nil|apply Lend.keep|(apply Lend.lend;(focus repeat constructor);(focus first|omega|(simp;omega)))|(apply Lend.cell;(focus repeat constructor))|fail));done)))|(apply Cl.p (h2);(focus ((repeat' (first|exact Lend.nil|apply Lend.keep|(apply Lend.lend;(focus repeat constructor);(focus first|omega|(simp;omega)))|(apply Lend.cell;(focus repeat constructor))|fail));done)))|(apply Cl.p (hcl);(focus ((repeat' (first|exact Lend.nil|apply Lend.keep|(apply Lend.lend;(focus repeat constructor);(focus first|omega|(simp;omega)))|(apply Lend.cell;(focus repeat constructor))|fail));done)))|(apply Cl.lend (h3);(focus ((repeat' (first|exact Lend.nil|apply Lend.keep|(apply Lend.lend;(focus repeat constructor);(focus first|omega|(simp;omega)))|(apply Lend.cell;(focus repeat constructor))|fail));done)))|(apply Cl.lend (h4);(focus ((repeat' (first|exact Lend.nil|apply Lend.keep|(apply Lend.lend;(focus repeat constructor);(focus first|omega|(simp;omega)))|(apply Lend.cell;(focus repeat constructor))|fail));done)))|(apply Cl.lend (h4);(focus ((repeat' (first|exact Lend.nil|apply Lend.keep|(apply Lend.lend;(focus repeat constructor);(focus first|omega|(simp;omega)))|(apply Lend.cell;(focus repeat constructor))|fail));done))))
  all_goals refine xW (hd) ?_
  all_goals rintro _ _ ⟨rfl, rfl⟩
  all_goals repeat' (first|refine Sp.h ?_|refine Lk.r rfl ?_|refine Rf.mk rfl ?_|refine All.mk fun _=>?_|refine xT ?_|refine Ch.l ⟨rfl, rfl⟩ ?_|(apply Fk.r;focus repeat' first|infer_instance|constructor)|refine Rf.mk ⟨rfl, rfl, rfl⟩ ?_|(apply Cl.p (hcl);focus repeat' constructor))
  all_goals refine xW (hs) ?_
  all_goals rintro _ _ ⟨v, rfl, rfl⟩
  all_goals repeat' (first|refine Sp.h ?_|refine Lk.r rfl ?_|refine Rf.mk rfl ?_|refine xU ?_|refine Ce.r ?_|refine Rf.mk ⟨rfl, rfl⟩ ?_|(apply Mp.lit;(focus repeat (first|exact MpL.nil|(apply MpL.cons;(focus rfl))|(apply MpL.inv;(focus repeat constructor);(focus infer_instance)))))|fail)
  any_goals exact mpl_id evC S.1
  all_goals refine ⟨by rw [List.length_map];simp [chunk];omega, ?_⟩
  all_goals (repeat' (first|(show CA _ _ Code.ret _ _;apply Stopped.out)|refine Sp.h ?_|refine Lk.r rfl ?_|refine All.mk fun _=>?_|fail));any_goals apply Stopped.mk
  all_goals refine CA.retype (by repeat constructor) (e :: S.1) evC (by simp [chunk];rfl) ?_
  all_goals repeat' (first|refine Sp.h ?_|refine Lk.r rfl ?_|refine xN ?_|fail)
  all_goals exact ⟨_, [arrR _ 40 13 (e :: S.1) evC, bufB b vc mb, clkR vc S.2.1, heldR mb S.2.2], .tup (.same (.same (.z))), _, rfl, rfl⟩
 by_cases q4 : 256 ≤ H.length
 ·have hr : addB c H e = (8, [], c, H) := by rw [addB, if_neg k1, if_neg q1, if_neg q3, if_pos q4]
  rw [hr]
  refine addN_x ?_
  refine CallA.of pg ord42 Tryz.func42 rfl Tryz.ntmps42 Tryz.results42 rfl fun h0 G0 O0 => ?_
  repeat' (first|refine Sp.h ?_|refine Lk.r rfl ?_|refine Rf.mk rfl ?_|refine xA ?_|refine xB ?_|refine OpK.r rfl ?_|refine Im.mk fun _=>?_|refine All.mk fun _=>?_|refine xU ?_|refine xT ?_|refine Ch.l ⟨rfl, rfl⟩ ?_|(apply SetAsk.r;focus repeat' constructor)|refine xN ?_|refine xK ?_|(apply Kf.mk;(focus kernel_rfl))|refine xM ?_|(apply Zx.agg;(focus rfl);(focus rfl);(focus repeat constructor))|(apply LkM.n;(focus first|assumption|rfl))|refine xD ?_|exact trivial|apply RA'.both|(apply Cl.p (h1);(focus ((repeat' (first|exact Lend.nil|apply Lend.keep|(apply Lend.lend;(focus repeat constructor);(focus first|omega|(simp;omega)))|(apply Lend.cell;(focus repeat constructor))|fail));done)))|(apply Cl.p (h2);(focus ((repeat' (first|exact Lend.nil|apply Lend.keep|(apply Lend.lend;(focus repeat constructor);(focus first|omega|(simp;omega)))|(apply Lend.cell;(focus repeat constructor))|fail));done)))|(apply Cl.p (h2);(focus ((repeat' (first|exact Lend.nil|apply Lend.keep|(apply Lend.lend;(focus repeat constructor);(focus first|omega|(simp;omega)))|(apply Lend.cell;(focus repeat constructor))|fail));done)))|(apply Cl.lend (h3);(focus ((repeat' (first|exact Lend.nil|apply Lend.keep|(apply Lend.lend;(focus repeat constructor);(focus first|omega|(simp;omega)))|(apply Lend.cell;(focus repeat constructor))|fail));done)))|(apply Cl.lend (h4);(focus ((repeat' (first|exact Lend.nil|apply Lend.keep|(apply Lend.lend;(focus repeat constructor);(focus first|omega|(simp;omega)))|(apply Lend.cell;(focus repeat constructor))|fail));done)))|(apply Cl.lend (h4);(focus ((repeat' (first|exact Lend.nil|apply Lend.keep|(apply Lend.lend;(focus repeat constructor);(focus first|omega|(simp;omega)))|(apply Lend.cell;(focus repeat constructor))|fail));done))))
  all_goals exact ⟨_, [bufB b vc mb, clkR vc c, heldR mb H], .tup (.same (.same (.z))), rfl, rfl⟩
 ·have hr : addB c H e = (0, [], c, updL H [e.rep, e.num] e) := by rw [addB, if_neg k1, if_neg q1, if_neg q3, if_neg q4]
  rw [hr]
  refine addN_x ?_
  refine CallA.of pg ord42 Tryz.func42 rfl Tryz.ntmps42 Tryz.results42 rfl fun h0 G0 O0 => ?_
  repeat' (first|refine Sp.h ?_|refine Lk.r rfl ?_|refine Rf.mk rfl ?_|refine xA ?_|refine xB ?_|refine OpK.r rfl ?_|refine Im.mk fun _=>?_|refine All.mk fun _=>?_|refine xU ?_|refine xT ?_|refine Ch.l ⟨rfl, rfl⟩ ?_|(apply SetAsk.r;focus repeat' constructor)|refine xN ?_|refine xK ?_|(apply Kf.mk;(focus kernel_rfl))|refine xM ?_|refine UpV.r rfl ?_|(apply Zx.agg;(focus rfl);(focus rfl);(focus repeat constructor))|(apply LkM.n;(focus first|assumption|rfl))|refine xD ?_|exact trivial|apply RA'.both|(apply Cl.p (h1);(focus ((repeat' (first|exact Lend.nil|apply Lend.keep|(apply Lend.lend;(focus repeat constructor);(focus first|omega|(simp;omega)))|(apply Lend.cell;(focus repeat constructor))|fail));done)))|(apply Cl.p (h2);(focus ((repeat' (first|exact Lend.nil|apply Lend.keep|(apply Lend.lend;(focus repeat constructor);(focus first|omega|(simp;omega)))|(apply Lend.cell;(focus repeat constructor))|fail));done)))|(apply Cl.p (hcl);(focus ((repeat' (first|exact Lend.nil|apply Lend.keep|(apply Lend.lend;(focus repeat constructor);(focus first|omega|(simp;omega)))|(apply Lend.cell;(focus repeat constructor))|fail));done)))|(apply Cl.lend (h3);(focus ((repeat' (first|exact Lend.nil|apply Lend.keep|(apply Lend.lend;(focus repeat constructor);(focus first|omega|(simp;omega)))|(apply Lend.cell;(focus repeat constructor))|fail));done)))|(apply Cl.lend (h4);(focus ((repeat' (first|exact Lend.nil|apply Lend.keep|(apply Lend.lend;(focus repeat constructor);(focus first|omega|(simp;omega)))|(apply Lend.cell;(focus repeat constructor))|fail));done)))|(apply Cl.lend (h4);(focus ((repeat' (first|exact Lend.nil|apply Lend.keep|(apply Lend.lend;(focus repeat constructor);(focus first|omega|(simp;omega)))|(apply Lend.cell;(focus repeat constructor))|fail));done))))
  all_goals exact ⟨_, [bufB b vc mb, clkR vc c, heldR mb (updL H [e.rep, e.num] e)], .tup (.same (.same (.z))), rfl, rfl⟩
end Go.Proofs.YtajenkpjcbaadaaGreat
namespace Go.Proofs.YtajenkpjcbaadaaGreat
open Go Go.CF
set_option maxRecDepth 20000
theorem estrict_p (t : TblS) : CallP Tryz.prog 56 [.agg (tblC t)] (bl (decide (isStrict t.kind))) := by
 refine CallA.of pg ord56 Tryz.func56 rfl Tryz.ntmps56 Tryz.results56 rfl fun h0 G0 O0 => ?_
 repeat' (first|refine Sp.h ?_|refine Lk.r rfl ?_|refine Rf.mk rfl ?_|refine xA ?_|refine xB ?_|(refine Bd.mk ?_ ?_ <;> intro _)|refine All.mk fun _=>?_|refine xT ?_|refine xN ?_|fail)
 all_goals exact Fin.p rfl (vb (by first|exact (decide_eq_true (by unfold isStrict;omega)).symm|exact (decide_eq_false (by unfold isStrict;omega)).symm|exact decide_eq_decide.2 (by unfold isStrict;omega)))
theorem esize_p (m : ModS) (t : TblS) (h : ColOK m.sorts t.cols) : CallP Tryz.prog 57 [mdl m, .agg (tblC t)] (it (szF m t : Nat)) := by
 have h1 := sz_fit (m := m) h
 refine CallA.of pg ord57 Tryz.func57 rfl Tryz.ntmps57 Tryz.results57 rfl fun h0 G0 O0 => ?_
 repeat' (first|refine Sp.h ?_|refine Lk.r rfl ?_|refine Rf.mk rfl ?_|refine Im.mk fun _=>?_|refine All.mk fun _=>?_|refine xT ?_|fail)
 rename_i b2 b3 _
 refine CA.loop (fun k : Nat => ⟨[(2, pm b2), (5, it (prodF m.sorts (t.cols.take k))), (9, ints t.cols), (10, it (t.cols.length : Nat)), (11, it k)], [mR b2 m]⟩) (fun k => k ≤ t.cols.length) (fun k => t.cols.length - k) 0 xE (Nat.zero_le _) ?_
 intro k hk
 by_cases hkn : k < t.cols.length
 ·obtain ⟨x, hx⟩ := get_of hkn
  obtain ⟨j, rfl, y, hy, hy1, hy2⟩ := col_get h hx
  have hb := prod_succ hx (show m.sorts[((j : Int)).toNat]? = some y by simpa using hy)
  have hp := prod_fit h k
  have hp2 := prod_fit h (k + 1)
  rw [hb] at hp2
  have hj := (List.getElem?_eq_some_iff.1 hy).1
  repeat' (first|refine Sp.h ?_|refine Lk.r rfl ?_|refine Rf.mk rfl ?_|refine xA ?_|refine xP ?_|refine xT ?_|refine xI ?_|refine xO ?_|fail)
  rw [← hb]
  exact PA.lp (k + 1) xE ⟨hkn, by omega⟩
 ·have hke : k = t.cols.length := by omega
  subst hke
  simp only [List.take_length]
  rw [h1.1]
  repeat' (first|refine Sp.h ?_|refine Lk.r rfl ?_|refine Rf.mk rfl ?_|refine xB ?_|refine xN ?_|fail)
  exact Fin.p rfl rfl
theorem evalid1_p (m : ModS) (e : EvS) : CallP Tryz.prog 106 [evA' e, .ad (modC m) 0] (bl (decide (¬ EvV m (e.past.length : Nat) e))) := by
 have h := evalid_p m (e.past.length : Nat) e
 refine CallA.of pg ord106 Tryz.func106 rfl Tryz.ntmps106 Tryz.results106 rfl fun h0 G0 O0 => ?_
 repeat' (first|refine Sp.h ?_|refine Lk.r rfl ?_|refine Rf.mk rfl ?_|refine Im.mk fun _=>?_|refine All.mk fun _=>?_|refine xT ?_|refine Ch.l ⟨rfl, rfl⟩ ?_|refine xN ?_|(apply Cl.p (h);focus repeat' constructor))
 exact Fin.p rfl rfl
theorem evalidL_p (m : ModS) (l : List EvS) (h : ∀ e ∈ l, EvV m (e.past.length : Nat) e) : CallP Tryz.prog 58 [mdl m, evs l] (bl true) := by
 have hc := containsF_p (fun e => evalid1_p m e) rfl l
 rw [decide_eq_false (fun h9 => by
  obtain ⟨x, h1, h2⟩ := idxN_lt.1 h9
  exact (of_decide_eq_true h2) (h x h1))] at hc
 refine CallA.of pg ord58 Tryz.func58 rfl Tryz.ntmps58 Tryz.results58 rfl fun h0 G0 O0 => ?_
 repeat' (first|refine Sp.h ?_|refine Lk.r rfl ?_|refine Rf.mk rfl ?_|refine All.mk fun _=>?_|fail)
 (apply Cl.lend (hc);(focus repeat' (first|exact Lend.nil|apply Lend.keep|(apply Lend.cell;(focus repeat constructor))|refine Lend.fn ?_ ?_|fail)))
 repeat' (first|refine Sp.h ?_|refine Lk.r rfl ?_|refine xN ?_|fail)
 exact Fin.p rfl rfl
theorem foldE_succ {m : ModS} {l : List EvS} {i : Nat} {e : EvS} (h : l[i]? = some e) (s : List Int) : (l.take (i + 1)).foldl (addE m) s = addE m ((l.take i).foldl (addE m) s) e := by
 rw [List.take_add_one, h, Option.toList_some, List.foldl_append];rfl
set_option maxHeartbeats 4000000 in
theorem estate_p (m : ModS) (ld : List Int) (l : List EvS) (hm : MOK m) (hl : ld.length = strF m) (h : ∀ e ∈ l, EvV m (e.past.length : Nat) e) : CallP Tryz.prog 16 [mdl m, ints ld, evs l] (.tup [ints (l.foldl (addE m) ld), it 0]) := by
 have hml := hm.lay.2.2.1
 have hstr := hm.str
 have hcl := clone_o ld (by omega)
 have hvl := evalidL_p m l h
 refine CallA.fzt (T := 3) (by rw [foldE_len];omega) ?_
 refine CallA.of pg ord16 Tryz.func16 rfl Tryz.ntmps16 Tryz.results16 rfl fun h0 G0 O0 => ?_
 repeat' (first|refine Sp.h ?_|refine Lk.r rfl ?_|refine Rf.mk rfl ?_|refine Im.mk fun _=>?_|refine All.mk fun _=>?_|refine xT ?_|fail)
 rename_i b3 _
 refine CA.loop (fun i : Nat => ⟨[(1, ints ld), (2, evs l), (3, pm b3), (8, it (strN m (m.tables.take i) : Nat)), (17, tbls m.tables), (18, it (m.tables.length : Nat)), (19, it i)], [mR b3 m]⟩) (fun i => i ≤ m.tables.length) (fun i => m.tables.length - i) 0 xE (Nat.zero_le _) ?_
 intro i hi
 by_cases hin : i < m.tables.length
 ·obtain ⟨t, ht⟩ := get_of hin
  have hc := (hm.lay.2.2.2 t (List.mem_of_getElem? ht)).1
  have h1 := sz_fit (m := m) hc
  have hn := strN_le hm.lay i hi
  have hsu := strN_succ (m := m) ht
  have h2 := estrict_p t
  have h3 := esize_p m t hc
  by_cases hst : isStrict t.kind
  ·rw [if_pos hst] at hsu
   rw [decide_eq_true hst] at h2
   repeat' (first|refine Sp.h ?_|refine Lk.r rfl ?_|refine Rf.mk rfl ?_|refine xA ?_|refine All.mk fun _=>?_|refine xT ?_|refine xI ?_|refine Ch.l ⟨rfl, rfl⟩ ?_|(apply SetAsk.r;focus repeat' constructor)|refine xN ?_|refine xO ?_|(apply Cl.p (h2);focus (repeat' constructor);done)|(apply Cl.p (h3);focus (repeat' constructor);done))
   rw [show ((strN m (m.tables.take i) : Nat) : Int) + (szF m t : Nat) = (strN m (m.tables.take (i + 1)) : Nat) by omega]
   exact PA.lp (i + 1) xE ⟨hin, by omega⟩
  ·rw [if_neg hst] at hsu
   rw [decide_eq_false hst] at h2
   repeat' (first|refine Sp.h ?_|refine Lk.r rfl ?_|refine Rf.mk rfl ?_|refine xA ?_|refine All.mk fun _=>?_|refine xT ?_|refine xI ?_|refine Ch.l ⟨rfl, rfl⟩ ?_|(apply SetAsk.r;focus repeat' constructor)|refine xN ?_|refine xO ?_|(apply Cl.p (h2);focus (repeat' constructor);done)|(apply Cl.p (h3);focus (repeat' constructor);done))
   rw [show strN m (m.tables.take i) = strN m (m.tables.take (i + 1)) by omega]
   exact PA.lp (i + 1) xE ⟨hin, by omega⟩
 have hie : i = m.tables.length := by omega
 subst hie
 simp only [List.take_length]
 change CA _ _ _ [(1, ints ld), (2, evs l), (3, pm b3), (8, it (strF m : Nat)), (17, tbls m.tables), (18, it (m.tables.length : Nat)), (19, it (m.tables.length : Nat))] _
 repeat' (first|refine Sp.h ?_|refine Lk.r rfl ?_|refine Rf.mk rfl ?_|refine xA ?_|refine xB ?_|refine Im.mk fun _=>?_|refine xT ?_|refine Ch.l ⟨rfl, rfl⟩ ?_|(apply Cl.p (hvl);focus repeat' constructor))
 (refine Cl.use (hcl) (by repeat' (first|exact Lend.nil|apply Lend.keep|fail)) .nil rfl ?_;rintro _ _ ⟨_, rfl, rfl⟩)
 repeat' (first|refine Sp.h ?_|refine Lk.r rfl ?_|refine Rf.mk rfl ?_|refine Im.mk fun _=>?_|fail)
 rename_i u _ 
 refine CA.loop (fun i : Nat => ⟨[(3, pm b3), (11, .ow u), (43, evs l), (44, it (l.length : Nat)), (45, it i)], [mR b3 m, arrR u 3 1 ((l.take i).foldl (addE m) ld) intC]⟩) (fun i => i ≤ l.length) (fun i => l.length - i) 0 xE (Nat.zero_le _) ?_
 intro i hi
 by_cases hin : i < l.length
 ·obtain ⟨e, he⟩ := get_of hin
  have hev := h e (List.mem_of_getElem? he)
  have hsl : ((l.take i).foldl (addE m) ld).length = strF m := by rw [foldE_len];exact hl
  have hsu := foldE_succ (m := m) he ld
  obtain ⟨s, hs⟩ : ∃ s, s = (l.take i).foldl (addE m) ld := ⟨_, rfl⟩
  rw [← hs] at hsl hsu ⊢
  by_cases hk : e.kind = 0
  rotate_left
  ·have hadd : addE m s e = s := if_neg hk
   rw [hadd] at hsu
   repeat' (first|refine Sp.h ?_|refine Lk.r rfl ?_|refine Rf.mk rfl ?_|refine xA ?_|refine xB ?_|refine All.mk fun _=>?_|refine xT ?_|refine xI ?_|refine Ch.l ⟨rfl, rfl⟩ ?_|(apply SetAsk.r;focus repeat' constructor)|refine xN ?_|refine xO ?_|fail)
   rw [← hsu]
   exact PA.lp (i + 1) xE ⟨hin, by omega⟩
  have hact := act_rng hev.1 hk
  have hact2 := hev.2.2 hk
  obtain ⟨a, ha⟩ := get_of (l := m.acts) (i := e.action.toNat) (by omega)
  have hd := dltF_at ha
  have heo := hm.eff a (List.mem_of_getElem? ha)
  have hadd : addE m s e = addD s a.eff.delta := by rw [addE, if_pos hk, hd]
  repeat' (first|refine Sp.h ?_|refine Lk.r rfl ?_|refine Rf.mk rfl ?_|refine xA ?_|refine Im.mk fun _=>?_|refine All.mk fun _=>?_|refine xT ?_|refine xI ?_|(apply Ix.r;(focus assumption);(focus omega))|refine Ch.l ⟨rfl, rfl⟩ ?_|(apply SetAsk.r;focus repeat' constructor)|refine xN ?_|fail)
  refine CA.loop (fun k : Nat => ⟨[(3, pm b3), (11, .ow u), (43, evs l), (44, it (l.length : Nat)), (45, it i), (59, terms a.eff.delta), (60, it (a.eff.delta.length : Nat)), (61, it k)], [mR b3 m, arrR u 3 1 (addD s (a.eff.delta.take k)) intC]⟩) (fun k => k ≤ a.eff.delta.length) (fun k => a.eff.delta.length - k) 0 xE (Nat.zero_le _) ?_
  intro k hk2
  have hlen := addD_length (a.eff.delta.take k) s
  by_cases hkl : k < a.eff.delta.length
  ·obtain ⟨p, hp⟩ := get_of hkl
   obtain ⟨p1, p2⟩ := heo.d p (List.mem_of_getElem? hp)
   obtain ⟨z, hz⟩ := get_of (l := addD s (a.eff.delta.take k)) (i := p.1.toNat) (by omega)
   have hsd := addD_succ (s := s) hp
   rw [show add1 (addD s (a.eff.delta.take k)) p = (addD s (a.eff.delta.take k)).set p.1.toNat (IntKind.i64.wrap (z + p.2)) by rw [add1, hz];rfl] at hsd
   repeat' (first|refine Sp.h ?_|refine Lk.r rfl ?_|refine Rf.mk rfl ?_|refine xA ?_|refine OpK.r rfl ?_|refine All.mk fun _=>?_|refine xU ?_|refine xT ?_|refine xI ?_|(apply Ix.r;(focus assumption);(focus omega))|refine xJ ?_|refine Ch.l ⟨rfl, rfl⟩ ?_|(apply SetAsk.r;focus repeat' constructor)|refine xN ?_|refine xD ?_|fail)
   refine ⟨?_⟩
   repeat' (first|refine Sp.h ?_|refine Lk.r rfl ?_|refine Rf.mk rfl ?_|refine OpK.r rfl ?_|refine xU ?_|(apply Ix.r;(focus assumption);(focus omega))|refine xJ ?_|refine xV ?_|refine Up.r rfl ?_|refine xO ?_|fail)
   rw [← hsd]
   exact PA.lp (k + 1) xE ⟨hkl, by omega⟩
  ·have hke : k = a.eff.delta.length := by omega
   subst hke
   rw [List.take_length, ← hadd, ← hsu]
   repeat' (first|refine Sp.h ?_|refine Lk.r rfl ?_|refine Rf.mk rfl ?_|refine xB ?_|refine xO ?_|fail)
   exact PA.lp (i + 1) xE ⟨hin, by omega⟩
 ·have hie : i = l.length := by omega
  subst hie
  rw [List.take_length]
  repeat' (first|refine Sp.h ?_|refine Lk.r rfl ?_|refine Rf.mk rfl ?_|refine xB ?_|refine xN ?_|fail)
  exact ⟨_, _, .tup (.same (.same (.z))), _, rfl, rfl⟩
end Go.Proofs.YtajenkpjcbaadaaGreat
namespace Go.Proofs.YtajenkpjcbaadaaGreat
open Go Go.CF
set_option maxRecDepth 20000
theorem deliver_bad {m : ModS} {evl : List EvS} {w : NowS} {e : EvS} (h : ¬ (deliverF m evl w e).1 = 0) : (deliverF m evl w e).2 = w := by
 unfold deliverF at h ⊢
 repeat' split
 all_goals first
  | rfl
  | (exfalso;simp_all;done)
end Go.Proofs.YtajenkpjcbaadaaGreat
namespace Go.Proofs.YtajenkpjcbaadaaGreat
open Go Go.CF
set_option maxRecDepth 20000
theorem cntF_len (c : List Int) (e : EvS) : (cntF c e).length = c.length := by simp only [cntF, List.length_set]
theorem stlF_ind {N : Nat} (P : List Int → List (List Int × EvS) → List EvS → Prop)
  (hs : ∀ c H out p, HldOK N H → P c H out → p ∈ H → RdyE c p.2 → P (cntF c p.2) (delL H [p.2.rep, p.2.num]) (out ++ [p.2])) :
  ∀ (n : Nat) (c : List Int) (H : List (List Int × EvS)) (out : List EvS), HldOK N H → P c H out → HldOK N (stlF n c H out).2.2 ∧ P (stlF n c H out).2.1 (stlF n c H out).2.2 (stlF n c H out).1
 | 0, c, H, out, hH, h => ⟨hH, h⟩
 | n + 1, c, H, out, hH, h => by
  simp only [stlF]
  cases he : (ordE (H.map (·.2)))[idxN (rdyB c) (ordE (H.map (·.2)))]? with
  | none => exact ⟨hH, h⟩
  | some e =>
   obtain ⟨x, h1, h2, _⟩ := idxN_at (List.getElem?_eq_some_iff.1 he).1
   rw [he] at h1;cases h1
   obtain ⟨p, hp, rfl⟩ := List.mem_map.1 (ordE_mem.1 (List.mem_of_getElem? he))
   exact stlF_ind P hs n _ _ _ (hH.del _) (hs c H out p hH h hp (of_decide_eq_true h2))
theorem stlF_hld {N : Nat} {H : List (List Int × EvS)} (h : HldOK N H) (n : Nat) (c : List Int) (out : List EvS) : HldOK N (stlF n c H out).2.2 :=
 (stlF_ind (fun _ _ _ => True) (fun _ _ _ _ _ _ _ _ => trivial) n c H out h trivial).1
theorem stlF_clk {N : Nat} {H : List (List Int × EvS)} (h : HldOK N H) (n : Nat) (c : List Int) (out : List EvS) : (stlF n c H out).2.1.length = c.length :=
 (stlF_ind (fun d _ _ => d.length = c.length) (fun _ _ _ _ _ h1 _ _ => by rw [cntF_len];exact h1) n c H out h rfl).2
theorem stlF_sum {N : Nat} {H : List (List Int × EvS)} (h : HldOK N H) (n : Nat) (c : List Int) (out : List EvS) : (stlF n c H out).1.length + (stlF n c H out).2.2.length = out.length + H.length :=
 (stlF_ind (fun _ K o => o.length + K.length = out.length + H.length) (fun d K o p hK h1 hp _ => by
  have := delL_len (k := [p.2.rep, p.2.num]) ⟨p, hp, hK.key p hp⟩
  rw [List.length_append];simp only [List.length_cons, List.length_nil];omega) n c H out h rfl).2
theorem stlF_mem {N : Nat} {H : List (List Int × EvS)} (h : HldOK N H) (n : Nat) (c : List Int) (out : List EvS) : (∀ e ∈ (stlF n c H out).1, e ∈ out ∨ ∃ p ∈ H, p.2 = e) ∧ ∀ p ∈ (stlF n c H out).2.2, p ∈ H :=
 (stlF_ind (fun _ K o => (∀ e ∈ o, e ∈ out ∨ ∃ p ∈ H, p.2 = e) ∧ ∀ p ∈ K, p ∈ H) (fun d K o p hK h1 hp _ => ⟨fun e he => by
  rcases List.mem_append.1 he with he|he
  ·exact h1.1 e he
  ·rw [List.mem_singleton.1 he];exact .inr ⟨p, h1.2 p hp, rfl⟩, fun q hq => h1.2 q ((delL_sub _ _).mem hq)⟩) n c H out h ⟨fun e he => .inl he, fun p hp => hp⟩).2
/-! ### Adding -/
structure AddOK (N : Nat) (H : List (List Int × EvS)) (e : EvS) (r : Int × List EvS × List Int × List (List Int × EvS)) : Prop where
 clk : r.2.2.1.length = N
 hld : HldOK N r.2.2.2
 sum : r.2.1.length + r.2.2.2.length ≤ H.length + 1
 out : ∀ x ∈ r.2.1, x = e ∨ ∃ p ∈ H, p.2 = x
 mem : ∀ p ∈ r.2.2.2, p ∈ H ∨ p.2 = e
theorem addOK_id {N : Nat} {c : List Int} {H : List (List Int × EvS)} (e : EvS) (k : Int) (h : HldOK N H) (hc : c.length = N) : AddOK N H e (k, [], c, H) :=
 ⟨hc, h, by simp, fun x hx => by simp at hx, fun p hp => .inl hp⟩
theorem rep_rng {e : EvS} (h : FormedE e) : 0 ≤ e.rep ∧ e.rep < (e.past.length : Int) := by
 obtain ⟨_, f2, ⟨x, f3, _⟩, _⟩ := h
 have := (List.getElem?_eq_some_iff.1 f3).1
 exact ⟨f2, by omega⟩
theorem HldOK.ins {N : Nat} {H : List (List Int × EvS)} (h : HldOK N H) {e : EvS} (hf : FormedE e) (hl : e.past.length = N) (hn : lookL H [e.rep, e.num] = none) (hlen : H.length < 256) : HldOK N (updL H [e.rep, e.num] e) := by
 rw [updL_none _ _ _ hn]
 have hr := rep_rng hf
 have hne : ∀ p ∈ H, nm p.2 ≠ nm e := fun p hp h9 => by
  have h8 := h.key p hp
  unfold lookL at hn
  rw [Option.map_eq_none_iff, List.find?_eq_none] at hn
  exact hn p hp (by rw [h8];exact decide_eq_true h9)
 have hall : ∀ p ∈ H ++ [([e.rep, e.num], e)], p ∈ H ∨ p = ([e.rep, e.num], e) := fun p hp => by
  rcases List.mem_append.1 hp with hp|hp
  ·exact .inl hp
  ·exact .inr (List.mem_singleton.1 hp)
 refine ⟨fun p hp => ?_, fun p hp => ?_, fun p hp => ?_, by simp;omega, ?_⟩
 ·rcases hall p hp with hp|rfl
  ·exact h.rep p hp
  ·exact ⟨hr.1, by rw [← hl];exact hr.2⟩
 ·rcases hall p hp with hp|rfl
  ·exact h.key p hp
  ·rfl
 ·rcases hall p hp with hp|rfl
  ·exact h.fm p hp
  ·exact hf.1.2.2
 ·rw [List.map_append]
  refine uniq_pair.2 (List.pairwise_append.2 ⟨uniq_pair.1 h.nd, by simp, fun a ha b hb => ?_⟩)
  obtain ⟨p, hp, rfl⟩ := List.mem_map.1 ha
  rw [List.map_singleton, List.mem_singleton] at hb
  subst hb
  exact hne p hp
theorem addB_ok {N : Nat} {c : List Int} {H : List (List Int × EvS)} (e : EvS) (h : HldOK N H) (hc : c.length = N) : AddOK N H e (addB c H e) := by
 unfold addB
 by_cases k1 : ¬ FormedE e ∨ e.past.length ≠ c.length
 ·rw [if_pos k1];exact addOK_id e _ h hc
 rw [if_neg k1]
 have k0 : FormedE e := Decidable.not_not.1 fun h9 => k1 (.inl h9)
 have k2 : e.past.length = c.length := Decidable.not_not.1 fun h9 => k1 (.inr h9)
 by_cases q1 : (lookL H [e.rep, e.num]).isSome = true ∨ HasC c e.rep e.num
 ·rw [if_pos q1];exact addOK_id e _ h hc
 rw [if_neg q1]
 have hlk : lookL H [e.rep, e.num] = none := by
  cases h9 : lookL H [e.rep, e.num] with
  | none => rfl
  | some v => exact absurd (.inl (by rw [h9];rfl)) q1
 by_cases q3 : RdyE c e
 ·rw [if_pos q3]
  have hd := h.del [e.rep, e.num]
  have h2 := stlF_sum hd ((delL H [e.rep, e.num]).length + 1) (cntF c e) []
  have h3 := stlF_mem hd ((delL H [e.rep, e.num]).length + 1) (cntF c e) []
  have h4 := (delL_sub [e.rep, e.num] H).length_le
  refine ⟨by rw [stlF_clk hd, cntF_len];exact hc, stlF_hld hd _ _ _, ?_, fun x hx => ?_, fun p hp => .inl ((delL_sub _ _).mem (h3.2 p hp))⟩
  ·simp only [List.length_cons, List.length_nil] at h2 ⊢;omega
  ·rcases List.mem_cons.1 hx with rfl|hx
   ·exact .inl rfl
   ·rcases h3.1 x hx with hx|⟨p, hp, rfl⟩
    ·cases hx
    ·exact .inr ⟨p, (delL_sub _ _).mem hp, rfl⟩
 rw [if_neg q3]
 by_cases q4 : 256 ≤ H.length
 ·rw [if_pos q4];exact addOK_id e _ h hc
 rw [if_neg q4]
 refine ⟨hc, h.ins k0 (by omega) hlk (by omega), ?_, fun x hx => by simp at hx, fun p hp => ?_⟩
 ·rw [updL_none _ _ _ hlk];simp
 ·rw [updL_none _ _ _ hlk] at hp
  rcases List.mem_append.1 hp with hp|hp
  ·exact .inl hp
  ·rw [List.mem_singleton.1 hp];exact .inr rfl
/-! ### Peers -/
structure PrS where
 s : StoS
 c : List Int
 H : List (List Int × EvS)
 err : Int
noncomputable def dlvF (m : ModS) : List EvS → StoS → List EvS → Int × StoS × List EvS
 | [], s, out => (0, s, out)
 | x :: xs, s, out => if (deliverF m s.evs s.now x).1 = 0 then dlvF m xs ⟨s.base, s.evs ++ [x], (deliverF m s.evs s.now x).2⟩ (out ++ [x]) else ((deliverF m s.evs s.now x).1, s, out)
noncomputable def takF (m : ModS) : List EvS → PrS → List EvS → Int × PrS × List EvS
 | [], p, out => (0, p, out)
 | e :: l, p, out => if ¬ EvV m (p.s.now.clock.length : Nat) e then (1, p, out) else
  if (dlvF m (addB p.c p.H e).2.1 p.s out).1 = 0 then takF m l ⟨(dlvF m (addB p.c p.H e).2.1 p.s out).2.1, (addB p.c p.H e).2.2.1, (addB p.c p.H e).2.2.2, p.err⟩ (dlvF m (addB p.c p.H e).2.1 p.s out).2.2
  else ((dlvF m (addB p.c p.H e).2.1 p.s out).1, ⟨(dlvF m (addB p.c p.H e).2.1 p.s out).2.1, (addB p.c p.H e).2.2.1, (addB p.c p.H e).2.2.2, (dlvF m (addB p.c p.H e).2.1 p.s out).1⟩, (dlvF m (addB p.c p.H e).2.1 p.s out).2.2)
noncomputable def takeF (m : ModS) (l : List EvS) (p : PrS) : Int × PrS × List EvS := if p.err ≠ 0 then (9, p, []) else takF m l p []
structure PrOK (m : ModS) (N B : Nat) (p : PrS) : Prop where
 now : NowOK m p.s.now
 n : p.s.now.clock.length = N
 c : p.c.length = N
 hld : HldOK N p.H
 sz : p.s.evs.length + p.H.length ≤ B
 pl : p.s.now.places.length + p.H.length ≤ B
theorem deliver_len {m : ModS} {evl : List EvS} {w : NowS} {e : EvS} (h : (deliverF m evl w e).1 = 0) : (deliverF m evl w e).2.clock.length = w.clock.length ∧ (deliverF m evl w e).2.places = plE w.places e := by
 unfold deliverF at h ⊢
 repeat' split
 all_goals first
  | (exfalso;simp_all;done)
  | exact ⟨cntF_len _ _, rfl⟩
structure StK (m : ModS) (N B : Nat) (s : StoS) (k : Nat) : Prop where
 now : NowOK m s.now
 n : s.now.clock.length = N
 sz : s.evs.length + k ≤ B
 pl : s.now.places.length + k ≤ B
theorem StK.next {m : ModS} {N B k : Nat} {s : StoS} {x : EvS} (h : StK m N B s (k + 1)) (hB : B ≤ 100000) (hd : (deliverF m s.evs s.now x).1 = 0) : StK m N B ⟨s.base, s.evs ++ [x], (deliverF m s.evs s.now x).2⟩ k := by
 have h1 := h.sz;have h2 := h.pl
 have h3 := deliver_len hd
 have h4 := (plE_srt (e := x) h.now.pls).2
 refine ⟨now_deliver h.now (by omega) hd, by simp only;rw [h3.1];exact h.n, by simp;omega, ?_⟩
 simp only [h3.2]
 omega
theorem StK.mono {m : ModS} {N B k j : Nat} {s : StoS} (h : StK m N B s k) (hj : j ≤ k) : StK m N B s j := ⟨h.now, h.n, Nat.le_trans (Nat.add_le_add_left hj _) h.sz, Nat.le_trans (Nat.add_le_add_left hj _) h.pl⟩
theorem dlvF_len (m : ModS) : ∀ (X : List EvS) (s : StoS) (out : List EvS), (dlvF m X s out).2.2.length ≤ out.length + X.length
 | [], s, out => by simp [dlvF]
 | x :: X, s, out => by
  simp only [dlvF]
  split
  ·have := dlvF_len m X ⟨s.base, s.evs ++ [x], (deliverF m s.evs s.now x).2⟩ (out ++ [x])
   simp only [List.length_append, List.length_cons, List.length_nil] at this ⊢
   omega
  ·simp
theorem PrOK.add {m : ModS} {N B : Nat} {p : PrS} (h : PrOK m N B p) (e : EvS) : AddOK N p.H e (addB p.c p.H e) ∧ StK m N (B + 1) p.s ((addB p.c p.H e).2.1.length + (addB p.c p.H e).2.2.2.length) := by
 have ha := addB_ok e h.hld h.c
 have h1 := h.sz;have h2 := h.pl;have h3 := ha.sum
 exact ⟨ha, h.now, h.n, by omega, by omega⟩
theorem PrOK.of {m : ModS} {N B : Nat} {s : StoS} {c : List Int} {H : List (List Int × EvS)} {k : Int} (h : StK m N B s H.length) (hc : c.length = N) (hH : HldOK N H) : PrOK m N B ⟨s, c, H, k⟩ := ⟨h.now, h.n, hc, hH, h.sz, h.pl⟩
theorem takF_len {m : ModS} {N : Nat} : ∀ (l : List EvS) (p : PrS) (out : List EvS), HldOK N p.H → p.c.length = N → (takF m l p out).2.2.length ≤ out.length + p.H.length + l.length
 | [], p, out, h, hc => by simp only [takF, List.length_nil];omega
 | e :: l, p, out, h, hc => by
  have ha := addB_ok e h hc
  have h1 := ha.sum
  have h2 := dlvF_len m (addB p.c p.H e).2.1 p.s out
  simp only [takF, List.length_cons]
  split
  ·simp only;omega
  ·split
   ·have := takF_len (m := m) l ⟨(dlvF m (addB p.c p.H e).2.1 p.s out).2.1, (addB p.c p.H e).2.2.1, (addB p.c p.H e).2.2.2, p.err⟩ (dlvF m (addB p.c p.H e).2.1 p.s out).2.2 ha.hld ha.clk
    simp only at this
    omega
   ·simp only;omega
abbrev prR (pb sp bb mb : Nat) (m : ModS) (v vc : Value) (p : PrS) : List Res := [blkR pb 103 [pm sp, pm bb, it p.err], stoR sp m p.s.base v p.s.now, arrR v 40 13 p.s.evs evC, bufB bb vc mb, clkR vc p.c, heldR mb p.H]
end Go.Proofs.YtajenkpjcbaadaaGreat
namespace Go.Proofs.YtajenkpjcbaadaaGreat
open Go Go.CF
set_option maxRecDepth 20000
theorem dheld_a (b : Nat) (vc : Value) (mb : Nat) (c : List Int) (H : List (List Int × EvS)) {N : Nat} (h : HldOK N H) : CallA Tryz.prog 64 [pm b] [bufB b vc mb, clkR vc c, heldR mb H] fun r own => r = evs (ordE (H.map (·.2))) ∧ own = [bufB b vc mb, clkR vc c, heldR mb H] := by
 have h1 := dlist_a b vc mb c H h
 refine CallA.of pg ord64 Tryz.func64 rfl Tryz.ntmps64 Tryz.results64 rfl fun h0 G0 O0 => ?_
 repeat' (first|refine Sp.h ?_|refine Lk.r rfl ?_|refine Rf.mk rfl ?_|fail)
 refine xW (h1) ?_
 rintro _ _ ⟨rfl, rfl⟩
 repeat' (first|refine Sp.h ?_|refine Lk.r rfl ?_|refine xN ?_|fail)
 exact ⟨_, [bufB b vc mb, clkR vc c, heldR mb H], .one (.same (.z)), rfl, rfl⟩
theorem dnew_a (c : List Int) (h : ValC c) : CallA Tryz.prog 85 [ints c] [] fun r own => ∃ bb vc mb, r = .tup [pm bb, it 0] ∧ own = [bufB bb vc mb, clkR vc c, heldR mb []] := by
 have h1 := validC_p c
 rw [decide_eq_true h] at h1
 have h2 := clone_o c (by have := h.2.2;omega)
 refine CallA.of pg ord85 Tryz.func85 rfl Tryz.ntmps85 Tryz.results85 rfl fun h0 G0 O0 => ?_
 repeat' (first|refine Sp.h ?_|refine Lk.r rfl ?_|refine Rf.mk rfl ?_|refine xA ?_|(apply Cl.p (h1);focus repeat' constructor))
 (refine Cl.use (h2) (by repeat' (first|exact Lend.nil|apply Lend.keep|fail)) .nil rfl ?_;rintro _ _ ⟨_, rfl, rfl⟩)
 repeat' (first|refine Sp.h ?_|refine Lk.r rfl ?_|refine Rf.mk rfl ?_|fail)
 refine MkM.r evA' ?_
 refine ⟨fun M => ?_⟩
 repeat' (first|refine Sp.h ?_|refine Lk.r rfl ?_|refine Rf.mk rfl ?_|refine All.mk fun _=>?_|(apply Fk.r;focus repeat' first|infer_instance|constructor)|refine xN ?_|fail)
 exact ⟨_, [bufB _ _ M, clkR _ c, heldR M []], .tup (.same (.same (.z))), _, _, _, rfl, rfl⟩
set_option maxHeartbeats 8000000 in
theorem take_a (pb sp bb mb : Nat) (m : ModS) (v vc : Value) (N B : Nat) (p : PrS) (l : List EvS) (hm : MOK m) (h : PrOK m N B p) (hN : N ≤ 5) (hB : B + l.length ≤ 90000) :
  CallA Tryz.prog 10 [pm pb, evs l] (prR pb sp bb mb m v vc p) fun r own => r = .tup [evs (takeF m l p).2.2, it (takeF m l p).1] ∧ ∃ v', own = prR pb sp bb mb m v' vc (takeF m l p).2.1 := by
 by_cases he : p.err = 0
 rotate_left
 ·have hr : takeF m l p = (9, p, []) := if_pos he
  rw [hr]
  refine CallA.fxr (K := fun r own => r = .tup [nl0, it 9] ∧ own = prR pb sp bb mb m v vc p) ?_ (by rintro _ _ ⟨rfl, rfl⟩;exact ⟨_, _, .tup (.kn (.k .nil)) .nil, rfl, v, rfl⟩)
  refine CallA.of pg ord10 Tryz.func10 rfl Tryz.ntmps10 Tryz.results10 rfl fun h0 G0 O0 => ?_
  repeat' (first|refine Sp.h ?_|refine Lk.r rfl ?_|refine Rf.mk rfl ?_|refine xB ?_|refine xT ?_|refine xN ?_|fail)
  exact ⟨_, prR pb sp bb mb m v vc p, .tup (.same (.same (.z))), rfl, rfl⟩
 obtain ⟨res, hres⟩ : ∃ res, res = takF m l p [] := ⟨_, rfl⟩
 have hr : takeF m l p = res := by rw [takeF, if_neg (fun h9 => h9 he), hres]
 rw [hr]
 have hlen : res.2.2.length ≤ 100000 := by
  have h1 := takF_len (m := m) l p [] h.hld h.c
  rw [← hres] at h1
  have h2 := h.sz
  simp only [List.length_nil] at h1
  omega
 refine CallA.fxr (K := fun r own => ∃ u v', r = .tup [.ow u, it res.1] ∧ own = arrR u 40 13 res.2.2 evC :: prR pb sp bb mb m v' vc res.2.1) ?_ (by rintro _ _ ⟨u, v', rfl, rfl⟩;exact ⟨_, _, .tup (.s1 .here (by omega) (.k .nil)) .nil, rfl, v', rfl⟩)
 refine CallA.of pg ord10 Tryz.func10 rfl Tryz.ntmps10 Tryz.results10 rfl fun h0 G0 O0 => ?_
 repeat' (first|refine Sp.h ?_|refine Lk.r rfl ?_|refine Rf.mk rfl ?_|refine xA ?_|refine Im.mk fun _=>?_|refine xT ?_|fail)
 refine CA.nilOwn 6 40 13 evC rfl fun u0 => ?_
 refine CA.loop (fun x : Nat × PrS × List EvS × Value × Value => ⟨[(0, pm pb), (6, .ow x.2.2.2.1), (19, evs l), (20, it (l.length : Nat)), (21, it x.1)], arrR x.2.2.2.1 40 13 x.2.2.1 evC :: prR pb sp bb mb m x.2.2.2.2 vc x.2.1⟩)
  (fun x => x.1 ≤ l.length ∧ PrOK m N (B + x.1) x.2.1 ∧ x.2.1.err = 0 ∧ x.2.2.1.length ≤ 1000 * x.1 ∧ res = takF m (l.drop x.1) x.2.1 x.2.2.1) (fun x => l.length - x.1) (0, p, [], u0, v) xE ⟨Nat.zero_le _, h, he, by simp, hres⟩ ?_
 rintro ⟨i, ⟨⟨b, evl, w⟩, c, H, er⟩, out, u, v⟩ ⟨hi, hp, rfl, ho, hr⟩
 simp only at hi hp ho hr
 simp only
 by_cases hin : i < l.length
 ·obtain ⟨e, hx⟩ := get_of hin
  have hva := svalid_p sp m b v w e
  have hadd := dadd_a bb vc mb c H e (by rw [hp.c];exact hp.hld) (by rw [hp.c];omega)
  repeat' (first|refine Sp.h ?_|refine Lk.r rfl ?_|refine Rf.mk rfl ?_|refine xA ?_|refine OpK.r rfl ?_|refine All.mk fun _=>?_|refine xT ?_|refine xI ?_|refine Ch.l ⟨rfl, rfl⟩ ?_|(apply SetAsk.r;focus repeat' constructor)|refine xN ?_|refine xD ?_|fail)
  refine xW (hva) ?_
  rintro _ _ ⟨rfl, rfl⟩
  by_cases hv : EvV m (w.clock.length : Nat) e
  rotate_left
  ·have hr2 : res = (1, ⟨⟨b, evl, w⟩, c, H, 0⟩, out) := by
    rw [hr, List.drop_eq_getElem_cons hin, (List.getElem?_eq_some_iff.1 hx).2]
    simp only [takF, if_pos hv]
   rw [hr2]
   simp only [decide_eq_false hv]
   repeat' (first|refine Sp.h ?_|refine Lk.r rfl ?_|refine Rf.mk rfl ?_|refine xB ?_|refine OpK.r rfl ?_|refine xN ?_|fail)
   exact ⟨_, arrR u 40 13 out evC :: prR pb sp bb mb m v vc ⟨⟨b, evl, w⟩, c, H, 0⟩, .tup (.same (.same (.z))), _, v, rfl, rfl⟩
  simp only [decide_eq_true hv]
  obtain ⟨A, hA⟩ : ∃ A, A = addB c H e := ⟨_, rfl⟩
  obtain ⟨ha, hs⟩ := hp.add e
  simp only [← hA] at hadd ha hs
  have hAl := ha.sum
  have hHl := hp.hld.len
  simp only at hHl
  obtain ⟨D, hD⟩ : ∃ D, D = dlvF m A.2.1 ⟨b, evl, w⟩ out := ⟨_, rfl⟩
  have hr2 : res = if D.1 = 0 then takF m (l.drop (i + 1)) ⟨D.2.1, A.2.2.1, A.2.2.2, 0⟩ D.2.2 else (D.1, ⟨D.2.1, A.2.2.1, A.2.2.2, D.1⟩, D.2.2) := by
   rw [hr, List.drop_eq_getElem_cons hin, (List.getElem?_eq_some_iff.1 hx).2]
   simp only [takF, ← hA, ← hD]
   exact if_neg (fun h9 => h9 hv)
  repeat' (first|refine Sp.h ?_|refine Lk.r rfl ?_|refine Rf.mk rfl ?_|refine xA ?_|refine OpK.r rfl ?_|refine xT ?_|refine Ch.l ⟨rfl, rfl⟩ ?_|refine xD ?_|fail)
  refine xW (hadd) ?_
  rintro _ _ ⟨rfl, rfl⟩
  repeat' (first|refine Sp.h ?_|refine Lk.r rfl ?_|refine Rf.mk rfl ?_|refine OpK.r rfl ?_|refine Im.mk fun _=>?_|fail)
  refine CA.loop (fun x : Nat × StoS × List EvS × Value × Value => ⟨[(0, pm pb), (6, .ow x.2.2.2.1), (19, evs l), (20, it (l.length : Nat)), (21, it i), (42, evs A.2.1), (43, it (A.2.1.length : Nat)), (44, it x.1)], arrR x.2.2.2.1 40 13 x.2.2.1 evC :: prR pb sp bb mb m x.2.2.2.2 vc ⟨x.2.1, A.2.2.1, A.2.2.2, 0⟩⟩)
   (fun x => x.1 ≤ A.2.1.length ∧ StK m N (B + i + 1) x.2.1 (A.2.1.length - x.1 + A.2.2.2.length) ∧ x.2.2.1.length ≤ 1000 * i + x.1 ∧ D = dlvF m (A.2.1.drop x.1) x.2.1 x.2.2.1) (fun x => A.2.1.length - x.1) (0, ⟨b, evl, w⟩, out, u, v) xE ⟨Nat.zero_le _, hs, ho, hD⟩ ?_
  rintro ⟨j, ⟨b', evl', w'⟩, out', u', v'⟩ ⟨hj, hS, hol, hD2⟩
  simp only at hj hS hol hD2
  simp only
  by_cases hjn : j < A.2.1.length
  ·obtain ⟨y, hy⟩ := get_of hjn
   have hdl := deliver_a sp m b' v' evl' w' y hm hS.now (by have := hS.sz;simp only at this;omega)
   repeat' (first|refine Sp.h ?_|refine Lk.r rfl ?_|refine Rf.mk rfl ?_|refine xA ?_|refine OpK.r rfl ?_|refine All.mk fun _=>?_|refine xT ?_|refine xI ?_|refine Ch.l ⟨rfl, rfl⟩ ?_|(apply SetAsk.r;focus repeat' constructor)|refine xN ?_|refine xD ?_|fail)
   refine xW (hdl) ?_
   rintro _ _ ⟨rfl, v2, rfl⟩
   by_cases hk : (deliverF m evl' w' y).1 = 0
   ·have hD3 : D = dlvF m (A.2.1.drop (j + 1)) ⟨b', evl' ++ [y], (deliverF m evl' w' y).2⟩ (out' ++ [y]) := by
     rw [hD2, List.drop_eq_getElem_cons hjn, (List.getElem?_eq_some_iff.1 hy).2]
     simp only [dlvF, if_pos hk]
    rw [evsD, if_pos hk]
    repeat' (first|refine Sp.h ?_|refine Lk.r rfl ?_|refine Rf.mk rfl ?_|refine xA ?_|refine OpK.r rfl ?_|refine xP ?_|refine All.mk fun _=>?_|refine xU ?_|refine xT ?_|refine Ce.r ?_|refine Ch.l ⟨rfl, rfl⟩ ?_|(apply Fk.r;focus repeat' first|infer_instance|constructor)|refine Rf.mk ⟨rfl, rfl⟩ ?_|refine Rf.mk ⟨rfl, rfl, rfl⟩ ?_|(apply Mp.lit;(focus repeat (first|exact MpL.nil|(apply MpL.cons;(focus rfl))|(apply MpL.inv;(focus repeat constructor);(focus infer_instance)))))|refine xO ?_|fail)
    refine PA.lp (j + 1, ⟨b', evl' ++ [y], (deliverF m evl' w' y).2⟩, out' ++ [y], _, v2) xE ⟨⟨hjn, StK.next (hS.mono (by omega)) (by omega) hk, by simp only [List.length_append, List.length_cons, List.length_nil];omega, hD3⟩, by simp only;omega⟩
   ·have hD3 : D = ((deliverF m evl' w' y).1, ⟨b', evl', w'⟩, out') := by
     rw [hD2, List.drop_eq_getElem_cons hjn, (List.getElem?_eq_some_iff.1 hy).2]
     simp only [dlvF, if_neg hk]
    rw [hD3, if_neg hk] at hr2
    rw [evsD, if_neg hk, deliver_bad hk, hr2]
    repeat' (first|refine Sp.h ?_|refine Lk.r rfl ?_|refine Rf.mk rfl ?_|refine xB ?_|refine OpK.r rfl ?_|refine xT ?_|refine xV ?_|refine xN ?_|fail)
    exact ⟨_, arrR u' 40 13 out' evC :: prR pb sp bb mb m v2 vc ⟨⟨b', evl', w'⟩, A.2.2.1, A.2.2.2, (deliverF m evl' w' y).1⟩, .tup (.same (.same (.z))), _, v2, rfl, rfl⟩
  ·have hD3 : D = (0, ⟨b', evl', w'⟩, out') := by
    rw [hD2, List.drop_eq_nil_of_le (by omega)];rfl
   rw [hD3, if_pos rfl] at hr2
   repeat' (first|refine Sp.h ?_|refine Lk.r rfl ?_|refine Rf.mk rfl ?_|refine xB ?_|refine xO ?_|fail)
   refine PA.lp (i + 1, ⟨⟨b', evl', w'⟩, A.2.2.1, A.2.2.2, 0⟩, out', u', v') xE ⟨⟨hin, PrOK.of (hS.mono (by omega)) ha.clk ha.hld, rfl, by simp only;omega, hr2⟩, by simp only;omega⟩
 ·have hr2 : res = (0, ⟨⟨b, evl, w⟩, c, H, 0⟩, out) := by
   rw [hr, List.drop_eq_nil_of_le (by omega)];rfl
  rw [hr2]
  repeat' (first|refine Sp.h ?_|refine Lk.r rfl ?_|refine Rf.mk rfl ?_|refine xB ?_|refine xN ?_|fail)
  exact ⟨_, arrR u 40 13 out evC :: prR pb sp bb mb m v vc ⟨⟨b, evl, w⟩, c, H, 0⟩, .tup (.same (.same (.z))), _, v, rfl, rfl⟩
end Go.Proofs.YtajenkpjcbaadaaGreat
namespace Go.Proofs.YtajenkpjcbaadaaGreat
open Go Go.CF
set_option maxRecDepth 20000
abbrev SpS := Int × Int × Int
abbrev sps (l : List SpS) : AV := .sl 3 l spanC
def mis1 (a b : List Int) (i : Nat) : List SpS := match a[i]?, b[i]? with
 | some x, some y => if x < y then [((i : Int), x + 1, y)] else []
 | _, _ => []
def misN (a b : List Int) : Nat → List SpS
 | 0 => []
 | i + 1 => misN a b i ++ mis1 a b i
def misF (a b : List Int) : List SpS := misN a b a.length
theorem misN_len (a b : List Int) : ∀ i, (misN a b i).length ≤ i
 | 0 => Nat.le_refl _
 | i + 1 => by
  have := misN_len a b i
  have h1 : (mis1 a b i).length ≤ 1 := by
   unfold mis1
   repeat' split
   all_goals simp
  simp only [misN, List.length_append];omega
theorem misN_mem {a b : List Int} : ∀ {i : Nat} {s : SpS}, s ∈ misN a b i ↔ ∃ j x y, j < i ∧ a[j]? = some x ∧ b[j]? = some y ∧ x < y ∧ s = ((j : Int), x + 1, y)
 | 0, s => by simp [misN]
 | i + 1, s => by
  simp only [misN, List.mem_append, misN_mem (i := i)]
  constructor
  ·rintro (⟨j, x, y, h1, h2⟩|h)
   ·exact ⟨j, x, y, by omega, h2⟩
   ·unfold mis1 at h
    cases hx : a[i]? with
    | none => simp [hx] at h
    | some x =>
     cases hy : b[i]? with
     | none => simp [hx, hy] at h
     | some y =>
      simp only [hx, hy] at h
      split at h
      ·rw [List.mem_singleton] at h
       exact ⟨i, x, y, by omega, hx, hy, by assumption, h⟩
      ·cases h
  ·rintro ⟨j, x, y, h1, h2, h3, h4, rfl⟩
   by_cases hj : j = i
   ·subst hj
    right
    simp only [mis1, h2, h3, if_pos h4, List.mem_singleton]
   ·exact .inl ⟨j, x, y, by omega, h2, h3, h4, rfl⟩
theorem missing_e (a b : List Int) (ha : ValC a) (hb : ValC b) (hab : a.length = b.length) : CallO Tryz.prog 70 [ints a, ints b] 171 3 (misF a b) spanC := by
 have hal : AlikeC [a, b] := (alike2 a b).2 ⟨ha, hb, hab⟩
 have h1 := alike_p [a, b]
 rw [decide_eq_true hal] at h1
 refine CallA.of pg ord70 Tryz.func70 rfl Tryz.ntmps70 Tryz.results70 rfl fun h0 G0 O0 => ?_
 repeat' (first|refine Sp.h ?_|refine Lk.r rfl ?_|refine Rf.mk rfl ?_|refine All.mk fun _=>?_|(apply Fk.r;focus repeat' first|infer_instance|constructor)|refine Rf.mk ⟨rfl, rfl, rfl⟩ ?_|fail)
 rename_i w
 (apply Cl.lend (h1);(focus repeat' (first|exact Lend.nil|(apply Lend.lendm;(focus repeat constructor);(focus rfl);(focus first|omega|decide|(simp;omega)|exact Nat.le_of_ble_eq_true rfl))|fail)))
 repeat' (first|refine Sp.h ?_|refine Lk.r rfl ?_|refine Rf.mk rfl ?_|refine xA ?_|refine Im.mk fun _=>?_|fail)
 refine CA.nilOwn 5 171 3 spanC rfl fun w2 => ?_
 refine CA.loop (fun x : Nat × Value => ⟨[(0, ints a), (1, ints b), (13, .val (.int .i64 a.length)), (14, .val (.int .i64 x.1)), (5, .ow x.2)], [arrR x.2 171 3 (misN a b x.1) spanC]⟩)
  (fun x => x.1 ≤ a.length) (fun x => a.length - x.1) (0, w2) xE (Nat.zero_le _) ?_
 rintro ⟨i, v⟩ hi
 simp only at hi
 have hva3 := ha.2
 have hml := misN_len a b i
 by_cases hin : i < a.length
 ·obtain ⟨x, hx⟩ := get_of hin
  obtain ⟨y, hy⟩ := get_of (l := b) (i := i) (by omega)
  have hrx := ha.1 x (List.mem_of_getElem? hx)
  unfold rngK at hrx
  by_cases hxy : x < y
  ·have hm : misN a b (i + 1) = misN a b i ++ [((i : Int), x + 1, y)] := by simp only [misN, mis1, hx, hy, if_pos hxy]
   repeat' (first|refine Sp.h ?_|refine Lk.r rfl ?_|refine Rf.mk rfl ?_|refine xA ?_|refine OpK.r rfl ?_|refine xP ?_|refine All.mk fun _=>?_|refine xU ?_|refine xI ?_|refine Ce.r ?_|(apply Fk.r;focus repeat' first|infer_instance|constructor)|refine Rf.mk ⟨rfl, rfl⟩ ?_|refine Rf.mk ⟨rfl, rfl, rfl⟩ ?_|(apply Mp.lit;(focus repeat (first|exact MpL.nil|(apply MpL.cons;(focus rfl))|(apply MpL.inv;(focus repeat constructor);(focus infer_instance)))))|refine xD ?_|refine xO ?_|fail)
   rename_i v2
   refine PA.lp (i + 1, v2) ⟨by rw [hm];(repeat first|exact trivial|refine ⟨rfl, ?_⟩), by rw [hm];(repeat first|exact .nil|refine .cons (by repeat constructor) ?_)⟩ ⟨hin, by simp only;omega⟩
  ·have hm : misN a b (i + 1) = misN a b i := by simp only [misN, mis1, hx, hy, if_neg hxy, List.append_nil]
   repeat' (first|refine Sp.h ?_|refine Lk.r rfl ?_|refine Rf.mk rfl ?_|refine xA ?_|refine xB ?_|refine OpK.r rfl ?_|refine xI ?_|refine xD ?_|refine xO ?_|fail)
   refine PA.lp (i + 1, v) ⟨by rw [hm];(repeat first|exact trivial|refine ⟨rfl, ?_⟩), by rw [hm];(repeat first|exact .nil|refine .cons (by repeat constructor) ?_)⟩ ⟨hin, by simp only;omega⟩
 ·have : i = a.length := by omega
  subst this
  repeat' (first|refine Sp.h ?_|refine Lk.r rfl ?_|refine Rf.mk rfl ?_|refine xB ?_|refine xN ?_|fail)
  exact ⟨_, _, .one (.same (.z)), v, rfl, rfl⟩
theorem missing_p (a b : List Int) (ha : ValC a) (hb : ValC b) (hab : a.length = b.length) : CallP Tryz.prog 70 [ints a, ints b] (sps (misF a b)) :=
 CallA.fz (by have := misN_len a b a.length;have := ha.2.2;unfold misF;omega) (missing_e a b ha hb hab)
end Go.Proofs.YtajenkpjcbaadaaGreat
namespace Go.Proofs.YtajenkpjcbaadaaGreat
open Go Go.CF
set_option maxRecDepth 20000
def wnt1 (hb : Int → Int → Bool) (r n : Int) (out : List SpS) : List SpS := if hb r n = true then out else match out[out.length - 1]? with
 | some s => if s.1 = r ∧ s.2.2 = n - 1 then out.set (out.length - 1) (s.1, s.2.1, n) else out ++ [(r, n, n)]
 | none => out ++ [(r, n, n)]
def wntR (hb : Int → Int → Bool) (r : Int) : Nat → Int → List SpS → List SpS
 | 0, _, out => out
 | k + 1, n, out => wntR hb r k (n + 1) (wnt1 hb r n out)
def wntL (hb : Int → Int → Bool) : List SpS → List SpS → List SpS
 | [], out => out
 | s :: l, out => wntL hb l (wntR hb s.1 (s.2.2 + 1 - s.2.1).toNat s.2.1 out)
noncomputable def hldB (H : List (List Int × EvS)) (r n : Int) : Bool := decide (∃ p ∈ H, p.2.rep = r ∧ p.2.num = n)
noncomputable def wantsF (c : List Int) (H : List (List Int × EvS)) (theirs : List Int) : Int × List SpS := if ValC theirs ∧ theirs.length = c.length then (0, wntL (hldB H) (misF c theirs) []) else (1, [])
def namesE (l : List EvS) : List (List Int × Bool) := l.map fun e => (nm e, true)
theorem namesE_look (l : List EvS) (r n : Int) : lookL (namesE l) [r, n] = if (∃ e ∈ l, e.rep = r ∧ e.num = n) then some true else none := by
 unfold lookL namesE
 cases hf : (l.map fun e => (nm e, true)).find? fun p => decide (p.1 = [r, n]) with
 | none =>
  rw [List.find?_eq_none] at hf
  rw [if_neg (fun ⟨e, he, h1, h2⟩ => hf (nm e, true) (List.mem_map.2 ⟨e, he, rfl⟩) (decide_eq_true (by rw [← h1, ← h2];rfl)))]
  rfl
 | some p =>
  obtain ⟨e, he, rfl⟩ := List.mem_map.1 (List.mem_of_find?_eq_some hf)
  have h1 : nm e = [r, n] := by have := List.find?_some hf;exact of_decide_eq_true this
  simp only [nm, List.cons.injEq, and_true] at h1
  rw [if_pos ⟨e, he, h1.1, h1.2⟩]
  rfl
theorem namesE_app {l : List EvS} (hu : Uniq l) {i : Nat} {e : EvS} (he : l[i]? = some e) : updL (namesE (l.take i)) [e.rep, e.num] true = namesE (l.take (i + 1)) := by
 rw [updL_none _ _ _ ?_, List.take_add_one, he]
 ·simp [namesE, nm]
 ·rw [namesE_look, if_neg]
  rintro ⟨x, hx, h1, h2⟩
  obtain ⟨j, hj⟩ := List.getElem?_of_mem hx
  have hji : j < i := by
   by_cases h9 : j < i
   ·exact h9
   ·rw [List.getElem?_take, if_neg h9] at hj;cases hj
  rw [List.getElem?_take_of_lt hji] at hj
  have := hu j i x e hj he (by simp [nm, h1, h2])
  omega
theorem wnt1_len (hb : Int → Int → Bool) (r n : Int) (out : List SpS) : (wnt1 hb r n out).length ≤ out.length + 1 := by
 unfold wnt1
 repeat' split
 all_goals simp
theorem wntR_len (hb : Int → Int → Bool) (r : Int) : ∀ (k : Nat) (n : Int) (out : List SpS), (wntR hb r k n out).length ≤ out.length + k
 | 0, n, out => Nat.le_refl _
 | k + 1, n, out => by
  have h1 := wnt1_len hb r n out
  have h2 := wntR_len hb r k (n + 1) (wnt1 hb r n out)
  rw [wntR];omega
theorem wntL_len (hb : Int → Int → Bool) : ∀ (l : List SpS) (out : List SpS), (∀ s ∈ l, (s.2.2 + 1 - s.2.1).toNat ≤ 1024) → (wntL hb l out).length ≤ out.length + 1024 * l.length
 | [], out, _ => by simp [wntL]
 | s :: l, out, h => by
  have h1 := wntR_len hb s.1 (s.2.2 + 1 - s.2.1).toNat s.2.1 out
  have h2 := wntL_len hb l (wntR hb s.1 (s.2.2 + 1 - s.2.1).toNat s.2.1 out) fun x hx => h x (List.mem_cons_of_mem _ hx)
  have h3 := h s List.mem_cons_self
  rw [wntL, List.length_cons];omega
theorem hldB_ord {N : Nat} {H : List (List Int × EvS)} (h : HldOK N H) (r n : Int) : (∃ e ∈ ordE (H.map (·.2)), e.rep = r ∧ e.num = n) ↔ hldB H r n = true := by
 unfold hldB
 rw [decide_eq_true_iff]
 constructor
 ·rintro ⟨e, he, h1⟩
  obtain ⟨p, hp, rfl⟩ := List.mem_map.1 (ordE_mem.1 he)
  exact ⟨p, hp, h1⟩
 ·rintro ⟨p, hp, h1⟩
  exact ⟨p.2, ordE_mem.2 (List.mem_map_of_mem hp), h1⟩
theorem ordE_nd {l : List EvS} (h : Uniq l) : Uniq (ordE l) := uniq_perm (ordE_perm l) h
set_option maxHeartbeats 8000000 in
theorem wants_a (pb sp bb mb : Nat) (m : ModS) (v vc : Value) (N B : Nat) (p : PrS) (th : List Int) (h : PrOK m N B p) :
  CallA Tryz.prog 53 [pm pb, ints th] (prR pb sp bb mb m v vc p) fun r own => r = .tup [sps (wantsF p.s.now.clock p.H th).2, it (wantsF p.s.now.clock p.H th).1] ∧ own = prR pb sp bb mb m v vc p := by
 have hcv := h.now.clk
 have hcl := hcv.2.2
 have hck := sclock_p sp m p.s.base v p.s.now (by omega)
 have hva := validC_p th
 by_cases hok : ValC th ∧ th.length = p.s.now.clock.length
 rotate_left
 ·have hr : wantsF p.s.now.clock p.H th = (1, []) := if_neg hok
  rw [hr]
  refine CallA.fxr (K := fun r own => r = .tup [nl0, it 1] ∧ own = prR pb sp bb mb m v vc p) ?_ (by rintro _ _ ⟨rfl, rfl⟩;exact ⟨_, _, .tup (.kn (.k .nil)) .nil, rfl, rfl⟩)
  by_cases hv : ValC th
  ·have hne : ¬ ((th.length : Int) = (p.s.now.clock.length : Int)) := fun h9 => hok ⟨hv, by omega⟩
   rw [decide_eq_true hv] at hva
   refine CallA.of pg ord53 Tryz.func53 rfl Tryz.ntmps53 Tryz.results53 rfl fun h0 G0 O0 => ?_
   repeat' (first|refine Sp.h ?_|refine Lk.r rfl ?_|refine Rf.mk rfl ?_|refine xT ?_|fail)
   refine xW (hck) ?_
   rintro _ _ ⟨rfl, rfl⟩
   repeat' (first|refine Sp.h ?_|refine Lk.r rfl ?_|refine Rf.mk rfl ?_|refine xA ?_|refine xB ?_|refine Im.mk fun _=>?_|refine xN ?_|(apply Cl.p (hva);focus repeat' constructor))
   exact ⟨_, prR pb sp bb mb m v vc p, .tup (.same (.same (.z))), rfl, rfl⟩
  ·rw [decide_eq_false hv] at hva
   refine CallA.of pg ord53 Tryz.func53 rfl Tryz.ntmps53 Tryz.results53 rfl fun h0 G0 O0 => ?_
   repeat' (first|refine Sp.h ?_|refine Lk.r rfl ?_|refine Rf.mk rfl ?_|refine xT ?_|fail)
   refine xW (hck) ?_
   rintro _ _ ⟨rfl, rfl⟩
   repeat' (first|refine Sp.h ?_|refine Lk.r rfl ?_|refine Rf.mk rfl ?_|refine xB ?_|refine xN ?_|(apply Cl.p (hva);focus repeat' constructor))
   exact ⟨_, prR pb sp bb mb m v vc p, .tup (.same (.same (.z))), rfl, rfl⟩
 obtain ⟨hv, hl⟩ := hok
 have hr : wantsF p.s.now.clock p.H th = (0, wntL (hldB p.H) (misF p.s.now.clock th) []) := if_pos ⟨hv, hl⟩
 rw [hr]
 rw [decide_eq_true hv] at hva
 obtain ⟨res, hres⟩ : ∃ res, res = wntL (hldB p.H) (misF p.s.now.clock th) [] := ⟨_, rfl⟩
 rw [← hres]
 obtain ⟨ms, hms⟩ : ∃ ms, ms = misF p.s.now.clock th := ⟨_, rfl⟩
 rw [← hms] at hres
 have hmi := missing_p p.s.now.clock th hcv hv hl.symm
 rw [← hms] at hmi
 have hml : ms.length ≤ 5 := by rw [hms];have := misN_len p.s.now.clock th p.s.now.clock.length;unfold misF;omega
 have hmr : ∀ s ∈ ms, 0 ≤ s.1 ∧ 1 ≤ s.2.1 ∧ s.2.1 ≤ s.2.2 ∧ s.2.2 ≤ 1024 := fun s hs => by
  rw [hms] at hs
  obtain ⟨j, x, y, h1, h2, h3, h4, rfl⟩ := misN_mem.1 hs
  have a1 := hcv.1 x (List.mem_of_getElem? h2)
  have a2 := hv.1 y (List.mem_of_getElem? h3)
  unfold rngK at a1 a2
  exact ⟨by simp only;omega, by simp only;omega, by simp only;omega, by simp only;omega⟩
 have hh := dheld_a bb vc mb p.c p.H h.hld
 obtain ⟨Q, hQ⟩ : ∃ Q, Q = ordE (p.H.map (·.2)) := ⟨_, rfl⟩
 have hQu : Uniq Q := by rw [hQ];exact ordE_nd h.hld.nd
 have hlk : ∀ r n, lookL (namesE Q) [r, n] = if hldB p.H r n = true then some true else none := fun r n => by
  rw [namesE_look, hQ]
  by_cases h9 : hldB p.H r n = true
  ·rw [if_pos h9, if_pos ((hldB_ord h.hld r n).2 h9)]
  ·rw [if_neg h9, if_neg (fun h8 => h9 ((hldB_ord h.hld r n).1 h8))]
 rw [← hQ] at hh
 have hrl : res.length ≤ 100000 := by
  have h1 := wntL_len (hldB p.H) ms [] fun s hs => by obtain ⟨_, a1, a2, a3⟩ := hmr s hs;omega
  rw [← hres] at h1
  simp only [List.length_nil] at h1
  omega
 refine CallA.fxr (K := fun r own => ∃ u, r = .tup [.ow u, it 0] ∧ own = arrR u 171 3 res spanC :: prR pb sp bb mb m v vc p) ?_ (by rintro _ _ ⟨u, rfl, rfl⟩;exact ⟨_, _, .tup (.s1 .here (by omega) (.k .nil)) .nil, rfl, rfl⟩)
 refine CallA.of pg ord53 Tryz.func53 rfl Tryz.ntmps53 Tryz.results53 rfl fun h0 G0 O0 => ?_
 repeat' (first|refine Sp.h ?_|refine Lk.r rfl ?_|refine Rf.mk rfl ?_|refine xT ?_|fail)
 refine xW (hck) ?_
 rintro _ _ ⟨rfl, rfl⟩
 repeat' (first|refine Sp.h ?_|refine Lk.r rfl ?_|refine Rf.mk rfl ?_|refine xA ?_|refine Im.mk fun _=>?_|(apply Cl.p (hva);focus repeat' constructor))
 refine MkM.r bl ?_
 refine ⟨fun M => ?_⟩
 repeat' (first|refine Sp.h ?_|refine Lk.r rfl ?_|refine Rf.mk rfl ?_|refine xT ?_|fail)
 refine xW (hh) ?_
 rintro _ _ ⟨rfl, rfl⟩
 repeat' (first|refine Sp.h ?_|refine Lk.r rfl ?_|refine Im.mk fun _=>?_|fail)
 refine CA.loop (fun i : Nat => ⟨[(1, ints th), (6, ints p.s.now.clock), (7, .val (.map (some M))), (35, evs Q), (36, it (Q.length : Nat)), (37, it i)], mapR Tryz.prog M 70 (namesE (Q.take i)) bl :: prR pb sp bb mb m v vc p⟩)
  (fun i => i ≤ Q.length) (fun i => Q.length - i) 0 xE (Nat.zero_le _) ?_
 rintro i hi
 by_cases hin : i < Q.length
 ·obtain ⟨e, he⟩ := get_of hin
  have hap := namesE_app hQu he
  repeat' (first|refine Sp.h ?_|refine Lk.r rfl ?_|refine Rf.mk rfl ?_|refine xA ?_|refine All.mk fun _=>?_|refine xT ?_|refine xI ?_|refine Ch.l ⟨rfl, rfl⟩ ?_|(apply SetAsk.r;focus repeat' constructor)|(apply Fk.r;focus repeat' first|infer_instance|constructor)|refine xN ?_|refine xK ?_|(apply Kf.mk;(focus kernel_rfl))|refine xM ?_|refine UpV.r rfl ?_|refine xO ?_|fail)
  refine PA.lp (i + 1) ⟨by (repeat first|exact trivial|refine ⟨rfl, ?_⟩), by rw [← hap];(repeat first|exact .nil|refine .cons (by repeat constructor) ?_)⟩ ⟨hin, by omega⟩
 have hie : i = Q.length := by omega
 subst hie
 rw [List.take_length]
 repeat' (first|refine Sp.h ?_|refine Lk.r rfl ?_|refine Rf.mk rfl ?_|refine xB ?_|fail)
 repeat' (first|refine Sp.h ?_|refine Lk.r rfl ?_|refine Im.mk fun _=>?_|(apply Cl.p (hmi);focus repeat' constructor))
 refine CA.nilOwn 10 171 3 spanC rfl fun u0 => ?_
 refine CA.loop (fun x : Nat × List SpS × Value => ⟨[(7, .val (.map (some M))), (10, .ow x.2.2), (50, sps ms), (51, it (ms.length : Nat)), (52, it x.1)], arrR x.2.2 171 3 x.2.1 spanC :: mapR Tryz.prog M 70 (namesE Q) bl :: prR pb sp bb mb m v vc p⟩)
  (fun x => x.1 ≤ ms.length ∧ x.2.1.length ≤ 2000 * x.1 ∧ res = wntL (hldB p.H) (ms.drop x.1) x.2.1) (fun x => ms.length - x.1) (0, [], u0) xE ⟨Nat.zero_le _, by simp, hres⟩ ?_
 rintro ⟨i, out, u⟩ ⟨hi, ho, hr⟩
 simp only at hi ho hr
 simp only
 by_cases hin : i < ms.length
 ·obtain ⟨⟨r, f, t⟩, hx⟩ := get_of hin
  obtain ⟨r1, r2, r3, r4⟩ := hmr _ (List.mem_of_getElem? hx)
  simp only at r1 r2 r3 r4
  have hr2 : res = wntL (hldB p.H) (ms.drop (i + 1)) (wntR (hldB p.H) r (t + 1 - f).toNat f out) := by
   rw [hr, List.drop_eq_getElem_cons hin, (List.getElem?_eq_some_iff.1 hx).2];rfl
  obtain ⟨K, hK⟩ : ∃ K : Nat, K = (t + 1 - f).toNat := ⟨_, rfl⟩
  rw [← hK] at hr2
  repeat' (first|refine Sp.h ?_|refine Lk.r rfl ?_|refine Rf.mk rfl ?_|refine xA ?_|refine All.mk fun _=>?_|refine xT ?_|refine xI ?_|refine Ch.l ⟨rfl, rfl⟩ ?_|(apply SetAsk.r;focus repeat' constructor)|refine xN ?_|fail)
  rename_i b12
  refine CA.loop (fun x : Nat × List SpS × Value => ⟨[(7, .val (.map (some M))), (10, .ow x.2.2), (12, pm b12), (13, it (f + x.1)), (50, sps ms), (51, it (ms.length : Nat)), (52, it i)], arrR x.2.2 171 3 x.2.1 spanC :: blkR b12 171 (spanC (r, f, t)) :: mapR Tryz.prog M 70 (namesE Q) bl :: prR pb sp bb mb m v vc p⟩)
   (fun x => x.1 ≤ K ∧ x.2.1.length ≤ 2000 * i + x.1 ∧ res = wntL (hldB p.H) (ms.drop (i + 1)) (wntR (hldB p.H) r (K - x.1) (f + x.1) x.2.1)) (fun x => K - x.1) (0, out, u) ⟨by simp only [Int.natCast_zero, Int.add_zero];(repeat first|exact trivial|refine ⟨rfl, ?_⟩), by (repeat first|exact .nil|refine .cons (by repeat constructor) ?_)⟩ ⟨Nat.zero_le _, ho, by simpa using hr2⟩ ?_
  rintro ⟨j, out', u'⟩ ⟨hj, ho', hr3⟩
  simp only at hj ho' hr3
  simp only
  by_cases hjn : j < K
  ·have hKj : K - j = (K - (j + 1)) + 1 := by omega
   have hcast : f + (j : Int) + 1 = f + ((j + 1 : Nat) : Int) := by push_cast;omega
   have hr4 : res = wntL (hldB p.H) (ms.drop (i + 1)) (wntR (hldB p.H) r (K - (j + 1)) (f + ((j + 1 : Nat) : Int)) (wnt1 (hldB p.H) r (f + j) out')) := by
    rw [hr3, hKj, wntR, hcast]
   have hle : f + (j : Int) ≤ t := by omega
   have hk := hlk r (f + j)
   cases hb : hldB p.H r (f + j) with
   | true =>
    have hw : wnt1 (hldB p.H) r (f + j) out' = out' := if_pos hb
    rw [hw] at hr4
    rw [hb, if_pos rfl] at hk
    repeat' (first|refine Sp.h ?_|refine Lk.r rfl ?_|refine Rf.mk rfl ?_|refine xA ?_|refine xT ?_|(apply Fk.r;focus repeat' first|infer_instance|constructor)|refine xK ?_|(apply Kf.mk;(focus kernel_rfl))|refine xM ?_|(apply LkM.s;(focus first|assumption|rfl))|refine xO ?_|fail)
    exact PA.lp (j + 1, out', u') ⟨by simp only [← hcast];(repeat first|exact trivial|refine ⟨rfl, ?_⟩), by (repeat first|exact .nil|refine .cons (by repeat constructor) ?_)⟩ ⟨⟨hjn, by simp only;omega, hr4⟩, by simp only;omega⟩
   | false =>
    rw [hb, if_neg Bool.false_ne_true] at hk
    have hol : ∀ o : List SpS, o.length ≤ out'.length + 1 → o.length ≤ 2000 * i + (j + 1) := fun o h9 => by omega
    by_cases hz : out'.length = 0
    ·have hw : wnt1 (hldB p.H) r (f + j) out' = out' ++ [(r, f + (j : Int), f + (j : Int))] := by
      unfold wnt1
      rw [hb, if_neg Bool.false_ne_true, List.getElem?_eq_none (by omega)]
     rw [hw] at hr4
     repeat' (first|refine Sp.h ?_|refine Lk.r rfl ?_|refine Rf.mk rfl ?_|refine xA ?_|refine xB ?_|refine OpK.r rfl ?_|refine xP ?_|refine All.mk fun _=>?_|refine xU ?_|refine xT ?_|refine Ce.r ?_|(apply Fk.r;focus repeat' first|infer_instance|constructor)|refine Rf.mk ⟨rfl, rfl⟩ ?_|refine Rf.mk ⟨rfl, rfl, rfl⟩ ?_|refine xK ?_|(apply Kf.mk;(focus kernel_rfl))|refine xM ?_|(apply Zx.b;(focus rfl))|(apply LkM.n;(focus first|assumption|rfl))|(apply Mp.lit;(focus repeat (first|exact MpL.nil|(apply MpL.cons;(focus rfl))|(apply MpL.inv;(focus repeat constructor);(focus infer_instance)))))|refine xD ?_|refine xO ?_|fail)
     exact PA.lp (j + 1, out' ++ [(r, f + (j : Int), f + (j : Int))], _) ⟨by simp only [← hcast];(repeat first|exact trivial|refine ⟨rfl, ?_⟩), by (repeat first|exact .nil|refine .cons (by repeat constructor) ?_)⟩ ⟨⟨hjn, hol _ (by simp), hr4⟩, by simp only;omega⟩
    obtain ⟨q, hq⟩ : ∃ q : Nat, out'.length = q + 1 := ⟨out'.length - 1, by omega⟩
    obtain ⟨⟨r', f', t'⟩, hs⟩ := get_of (l := out') (i := q) (by omega)
    have hqi : (out'.length : Int) - 1 = (q : Int) := by omega
    by_cases hc : r' = r ∧ t' = f + (j : Int) - 1
    ·have hw : wnt1 (hldB p.H) r (f + j) out' = out'.set q (r', f', f + (j : Int)) := by
      unfold wnt1
      rw [hb, if_neg Bool.false_ne_true, show out'.length - 1 = q by omega, hs]
      exact if_pos hc
     rw [hw] at hr4
     obtain ⟨hc1, hc2⟩ := hc
     repeat' (first|refine Sp.h ?_|refine Lk.r rfl ?_|refine Rf.mk rfl ?_|refine xA ?_|refine OpK.r rfl ?_|refine xU ?_|refine xT ?_|(apply Ix.r;(focus assumption);(focus omega))|refine xJ ?_|refine xV ?_|(apply Fk.r;focus repeat' first|infer_instance|constructor)|(apply Up.inv;(focus repeat constructor);(focus infer_instance))|refine xK ?_|(apply Kf.mk;(focus kernel_rfl))|refine xM ?_|(apply Zx.b;(focus rfl))|(apply LkM.n;(focus first|assumption|rfl))|refine xD ?_|refine xO ?_|fail)
     all_goals exact PA.lp (j + 1, out'.set q (r', f', f + (j : Int)), u') ⟨by simp only [← hcast];(repeat first|exact trivial|refine ⟨rfl, ?_⟩), by (repeat first|exact .nil|refine .cons (by repeat constructor) ?_)⟩ ⟨⟨hjn, hol _ (by simp), hr4⟩, by simp only;omega⟩
    ·have hw : wnt1 (hldB p.H) r (f + j) out' = out' ++ [(r, f + (j : Int), f + (j : Int))] := by
      unfold wnt1
      rw [hb, if_neg Bool.false_ne_true, show out'.length - 1 = q by omega, hs]
      exact if_neg hc
     rw [hw] at hr4
     by_cases hc1 : r' = r
     ·have hc2 : ¬ t' = f + (j : Int) - 1 := fun h9 => hc ⟨hc1, h9⟩
      repeat' (first|refine Sp.h ?_|refine Lk.r rfl ?_|refine Rf.mk rfl ?_|refine xA ?_|refine xB ?_|refine OpK.r rfl ?_|refine xP ?_|refine All.mk fun _=>?_|refine xU ?_|refine xT ?_|(apply Ix.r;(focus assumption);(focus omega))|refine xJ ?_|refine Ce.r ?_|(apply Fk.r;focus repeat' first|infer_instance|constructor)|refine Rf.mk ⟨rfl, rfl⟩ ?_|refine Rf.mk ⟨rfl, rfl, rfl⟩ ?_|refine xK ?_|(apply Kf.mk;(focus kernel_rfl))|refine xM ?_|(apply Zx.b;(focus rfl))|(apply LkM.n;(focus first|assumption|rfl))|(apply Mp.lit;(focus repeat (first|exact MpL.nil|(apply MpL.cons;(focus rfl))|(apply MpL.inv;(focus repeat constructor);(focus infer_instance)))))|refine xD ?_|refine xO ?_|fail)
      all_goals exact PA.lp (j + 1, out' ++ [(r, f + (j : Int), f + (j : Int))], _) ⟨by simp only [← hcast];(repeat first|exact trivial|refine ⟨rfl, ?_⟩), by (repeat first|exact .nil|refine .cons (by repeat constructor) ?_)⟩ ⟨⟨hjn, hol _ (by simp), hr4⟩, by simp only;omega⟩
     ·repeat' (first|refine Sp.h ?_|refine Lk.r rfl ?_|refine Rf.mk rfl ?_|refine xA ?_|refine xB ?_|refine OpK.r rfl ?_|refine xP ?_|refine All.mk fun _=>?_|refine xU ?_|refine xT ?_|(apply Ix.r;(focus assumption);(focus omega))|refine xJ ?_|refine Ce.r ?_|(apply Fk.r;focus repeat' first|infer_instance|constructor)|refine Rf.mk ⟨rfl, rfl⟩ ?_|refine Rf.mk ⟨rfl, rfl, rfl⟩ ?_|refine xK ?_|(apply Kf.mk;(focus kernel_rfl))|refine xM ?_|(apply Zx.b;(focus rfl))|(apply LkM.n;(focus first|assumption|rfl))|(apply Mp.lit;(focus repeat (first|exact MpL.nil|(apply MpL.cons;(focus rfl))|(apply MpL.inv;(focus repeat constructor);(focus infer_instance)))))|refine xD ?_|refine xO ?_|fail)
      all_goals exact PA.lp (j + 1, out' ++ [(r, f + (j : Int), f + (j : Int))], _) ⟨by simp only [← hcast];(repeat first|exact trivial|refine ⟨rfl, ?_⟩), by (repeat first|exact .nil|refine .cons (by repeat constructor) ?_)⟩ ⟨⟨hjn, hol _ (by simp), hr4⟩, by simp only;omega⟩
  ·have hj9 : j = K := by omega
   have hgt : ¬ f + (j : Int) ≤ t := by omega
   have hr4 : res = wntL (hldB p.H) (ms.drop (i + 1)) out' := by
    rw [hr3, hj9, Nat.sub_self, wntR]
   repeat' (first|refine Sp.h ?_|refine Lk.r rfl ?_|refine Rf.mk rfl ?_|refine xB ?_|refine xT ?_|refine xO ?_|fail)
   exact PA.lp (i + 1, out', u') xE ⟨⟨hin, by simp only;omega, hr4⟩, by simp only;omega⟩
 ·have hr2 : res = out := by rw [hr, List.drop_eq_nil_of_le (by omega)];rfl
  rw [hr2]
  repeat' (first|refine Sp.h ?_|refine Lk.r rfl ?_|refine Rf.mk rfl ?_|refine xB ?_|refine xN ?_|fail)
  exact ⟨_, arrR u 171 3 out spanC :: prR pb sp bb mb m v vc p, .tup (.same (.same (.z))), _, rfl, rfl⟩
end Go.Proofs.YtajenkpjcbaadaaGreat
