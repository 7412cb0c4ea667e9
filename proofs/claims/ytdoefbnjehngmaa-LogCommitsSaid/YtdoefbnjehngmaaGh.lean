/- Contracts of package replog: Lead and Propose; conditions: the log lies in the heap. -/
import Derived.Test.YtdoefbnjehngmaaGg
namespace Go.Proofs.Ytdoefbnjehngmaa
open Go Go.CF
set_option maxRecDepth 20000

theorem valE_mono {n : Int} {l : List Ent} (hv : valE n l) : ∀ (j i : Nat) (a b : Ent), i ≤ j → l[i]? = some a → l[j]? = some b → a.term ≤ b.term := by
  intro j
  induction j with
  | zero =>
    intro i a b hi ha hb
    have : i = 0 := by omega
    subst this
    rw [ha] at hb; cases hb; exact Int.le_refl _
  | succ j ih =>
    intro i a b hi ha hb
    by_cases hij : i = j + 1
    · subst hij; rw [ha] at hb; cases hb; exact Int.le_refl _
    · have hj := (List.getElem?_eq_some_iff.1 hb).1
      obtain ⟨c, hc⟩ : ∃ c, l[j]? = some c := ⟨_, List.getElem?_eq_getElem (by omega)⟩
      have h1 := ih i a c (by omega) ha hc
      have h2 := (hv.1 (j + 1) b hj hb).2 c (by omega) (by simpa using hc)
      omega
theorem valE_last {n : Int} {l : List Ent} (hv : valE n l) {e : Ent} (he : e ∈ l) : e.term ≤ termAt l l.length := by
  obtain ⟨i, hi⟩ := List.getElem?_of_mem he
  have hil := (List.getElem?_eq_some_iff.1 hi).1
  obtain ⟨m, hm⟩ : ∃ m, l.length = m + 1 := ⟨l.length - 1, by omega⟩
  obtain ⟨b, hb⟩ : ∃ b, l[m]? = some b := ⟨_, List.getElem?_eq_getElem (by omega)⟩
  rw [hm, termAt_get hb]
  exact valE_mono hv m i e b (by omega) hi hb
theorem valE_snoc {n : Int} {l : List Ent} {e : Ent} (hv : valE n l) (hr : rightE n e) (ht : termAt l l.length ≤ e.term) (hl : l.length < 1024) : valE n (l ++ [e]) := by
  refine ⟨fun j a hj ha => ?_, by simp; omega⟩
  rw [List.getElem?_append] at ha
  by_cases hjl : j < l.length
  · rw [if_pos hjl] at ha
    refine ⟨(hv.1 j a hjl ha).1, fun b hp hb => ?_⟩
    rw [List.getElem?_append_left (by omega)] at hb
    exact (hv.1 j a hjl ha).2 b hp hb
  · rw [if_neg hjl] at ha
    have hje : j = l.length := by simp at hj; omega
    subst hje
    simp at ha
    subst ha
    refine ⟨hr, fun b hp hb => ?_⟩
    rw [List.getElem?_append_left (by omega)] at hb
    obtain ⟨m, hm⟩ : ∃ m, l.length = m + 1 := ⟨l.length - 1, by omega⟩
    rw [hm] at hb ht
    simp only [Nat.add_sub_cancel] at hb
    rw [termAt_get hb] at ht
    exact ht
theorem termAt_nn {n : Int} {l : List Ent} (hv : valE n l) (j : Nat) : 0 ≤ termAt l j ∧ termAt l j ≤ 1048576 := by
  unfold termAt
  split
  · omega
  · cases he : l[j - 1]? with
    | none => simp
    | some e => have := (valE.right hv (List.mem_of_getElem? he)).1; simp; omega

def emptyE (t : Int) : Ent := ⟨t, 0, 0, 0, 0, []⟩
def leadS (g : LogS) (t : Int) : LogS := { g with ents := g.ents ++ [emptyE t], leads := t.toNat, nx := fun _ => g.ents.length + 1, mt := fun _ => 0 }
def leadR (g : LogS) (t : Int) : LogS × Int × Int :=
  if t < 1 ∨ 1048576 < t ∨ t < termAt g.ents g.ents.length then (g, 0, 1) else if 1024 ≤ g.ents.length then (g, 0, 8) else (leadS g t, g.ents.length + 1, 0)
theorem lead_val {g : LogS} {t : Int} (hk : LogOK g) (ht : ¬ (t < 1 ∨ 1048576 < t ∨ t < termAt g.ents g.ents.length)) (hl : g.ents.length < 1024) : valE g.n (g.ents ++ [emptyE t]) :=
  valE_snoc hk.val ⟨⟨by simp [emptyE]; omega, by simp [emptyE]; omega⟩, .inl ⟨rfl, ⟨rfl, rfl, rfl⟩, rfl⟩⟩ (by simp [emptyE]; omega) hl
theorem LogAt.ou {h h' : Heap} {K : Nat} {g : LogS} {O : Nat → Prop} (k : LogAt h' K g O) (hO : ∀ b, O b → b < h'.size) : LogAt h' K g (Ou O h h') := k.mono (fun _ hb => .inl hb) (fun b hb => hb.elim (hO b) (fun h => h.2))
set_option maxHeartbeats 2000000 in
theorem lead_any {h : Heap} {K : Nat} {g : LogS} {O : Nat → Prop} (k : LogAt h K g O) (t : Int) :
    CallsH Try.prog 12 #[.pointer (some ⟨K, 0, none⟩), .int .i64 t] h fun r h' => r = .tuple #[.int .i64 (leadR g t).2.1, .int .i64 (leadR g t).2.2] ∧ LogAt h' K (leadR g t).1 (Ou O h h') ∧ FP O h h' := by
  obtain ⟨p, cap, c0, c1, c2, c3, c4, cp, hr⟩ := k.rd
  have hl := k.len
  refine CallsH.of (l := [_, _]) Try.func12 rfl Try.ntmps12 Try.results12 rfl ?_
  by_cases ht0 : t < 1 ∨ 1048576 < t
  · rw [show leadR g t = (g, 0, 1) from if_pos (by omega)]
    repeat' (first | (refine St.d ?_; first | (refine dk 0 ?_; refine St.move rfl ?_) | (refine dk 1 ?_; refine St.assign rfl ?_) | (refine dk 6 ?_; first | refine St.pick_true rfl (by (first | rfl | assumption | exact decide_eq_true (by first | assumption | omega) | exact decide_eq_false (by first | assumption | exact not_not_intro (by assumption) | omega) | fail)) rfl ?_ | refine St.pick_false rfl (by (first | rfl | assumption | exact decide_eq_true (by first | assumption | omega) | exact decide_eq_false (by first | assumption | exact not_not_intro (by assumption) | omega) | fail)) rfl ?_ | fail) | (refine dk 14 ?_; refine St.lss rfl rfl ?_) | (refine dk 16 ?_; refine St.gtr rfl rfl ?_)) | (refine OW.d ?_; first | (refine dk 0 ?_; refine OW.step (gd_none rfl) rfl ?_) | (refine dk 1 ?_; first | refine OW.step (gd_yes rfl rfl rfl (by (first | rfl | assumption | exact decide_eq_true (by first | assumption | omega) | exact decide_eq_false (by first | assumption | exact not_not_intro (by assumption) | omega) | fail))) rfl ?_ | refine OW.pass (gd_no rfl rfl rfl (by (first | rfl | assumption | exact decide_eq_true (by first | assumption | omega) | exact decide_eq_false (by first | assumption | exact not_not_intro (by assumption) | omega) | fail))) rfl ?_ | refine OW.pass (gd_undef rfl rfl rfl) rfl ?_ | (refine OW.split_dnot rfl rfl rfl ?_ ?_ <;> intro _ <;> try (exfalso; omega)) | (refine OW.split_dec rfl rfl rfl ?_ ?_ <;> intro _ <;> try (exfalso; omega)) | (refine OW.split rfl rfl rfl ?_ ?_ <;> intro _) | fail)) | (refine CW.d ?_; first | (refine dk 0 ?_; refine CW.seq ?_) | (refine dk 1 ?_; refine CW.region ?_) | (refine dk 3 ?_; first | refine CW.cond_true rfl (by (first | rfl | assumption | exact decide_eq_true (by first | assumption | omega) | exact decide_eq_false (by first | assumption | exact not_not_intro (by assumption) | omega) | fail)) ?_ | refine CW.cond_false rfl (by (first | rfl | assumption | exact decide_eq_true (by first | assumption | omega) | exact decide_eq_false (by first | assumption | exact not_not_intro (by assumption) | omega) | fail)) ?_ | (refine CW.cond_dnot rfl ?_ ?_ <;> intro _ <;> try (exfalso; omega)) | (refine CW.cond_dec rfl ?_ ?_ <;> intro _ <;> try (exfalso; omega)) | (refine CW.cond rfl ?_ ?_ <;> intro _) | fail) | (refine dk 5 ?_; refine CW.ret ?_) | (refine dk 7 ?_; refine CW.block ?_)) | refine OW.nil ?_ | refine PK.code_normal ?_ | refine PK.code_ret ?_ | refine PK.blk_ret ?_ | refine PK.nil_ret ?_ | fail | fail)
    all_goals first
      | exact ⟨_, ResOK.two rfl rfl, rfl, k.ou k.old, .refl⟩
      | (exfalso; omega)
  repeat' (first | (refine St.d ?_; first | (refine dk 0 ?_; refine St.move rfl ?_) | (refine dk 4 ?_; first | refine St.fieldAddr0 pg rfl rfl rfl rfl ?_ | refine St.fieldAddr pg rfl rfl rfl rfl ?_ | fail) | (refine dk 2 ?_; first | refine St.load pg rfl rfl rfl (by (first | assumption | exact Blk.cel (by (repeat (first | assumption | exact New.blk (by assumption) | exact Upd.blk (by assumption) | (apply New.old; assumption) | (apply Upd.keep; assumption; (focus (first | assumption | exact Ne.symm (by assumption) | omega | (intro hne; simp only at hne; omega)))) | (apply Stp.blk0; assumption) | (apply Stp.blk1; assumption; (focus (first | assumption | exact Ne.symm (by assumption) | omega | (intro hne; simp only at hne; omega))))))) (by rfl) | exact Cels.fld (by assumption) (by rfl) | exact Cels.fld0 (by assumption) (by rfl) | (repeat (first | assumption | (apply New.oldc; assumption) | (apply Upd.keepc; assumption; (focus (first | assumption | exact Ne.symm (by assumption) | omega | (intro hne; simp only at hne; omega)))) | (apply Stp.cel0; assumption))))) (by first | exact List.not_mem_nil | assumption) rfl ?_ | refine St.loadS pg rfl rfl rfl (by first | assumption | exact Blk.cels0 (by (repeat (first | assumption | exact New.blk (by assumption) | exact Upd.blk (by assumption) | (apply New.old; assumption) | (apply Upd.keep; assumption; (focus (first | assumption | exact Ne.symm (by assumption) | omega | (intro hne; simp only at hne; omega)))) | (apply Stp.blk0; assumption) | (apply Stp.blk1; assumption; (focus (first | assumption | exact Ne.symm (by assumption) | omega | (intro hne; simp only at hne; omega))))))) | (repeat (first | assumption | (apply Cels.newc; assumption) | (apply Cels.stpc; assumption) | (apply Cels.updc; assumption; (focus (first | assumption | exact Ne.symm (by assumption) | omega | (intro hne; simp only at hne; omega))))))) (by first | exact List.not_mem_nil | assumption) rfl rfl ?_ | fail) | (refine dk 1 ?_; refine St.assign rfl ?_) | (refine dk 5 ?_; refine St.nilCheck rfl ?_) | (refine dk 23 ?_; first | refine St.call pg rfl rfl rfl ?_ | refine St.call0 pg rfl rfl rfl ?_ | refine St.callX pg rfl rfl rfl ?_ | fail) | (refine dk 6 ?_; first | refine St.pick_true rfl (by (first | rfl | assumption | exact decide_eq_true (by first | assumption | omega) | exact decide_eq_false (by first | assumption | exact not_not_intro (by assumption) | omega) | fail)) rfl ?_ | refine St.pick_false rfl (by (first | rfl | assumption | exact decide_eq_true (by first | assumption | omega) | exact decide_eq_false (by first | assumption | exact not_not_intro (by assumption) | omega) | fail)) rfl ?_ | fail) | (refine dk 14 ?_; refine St.lss rfl rfl ?_) | (refine dk 11 ?_; refine St.len pg rfl rfl rfl ?_) | (refine dk 16 ?_; refine St.gtr rfl rfl ?_)) | (refine OW.d ?_; first | (refine dk 0 ?_; refine OW.step (gd_none rfl) rfl ?_) | (refine dk 1 ?_; first | refine OW.step (gd_yes rfl rfl rfl (by (first | rfl | assumption | exact decide_eq_true (by first | assumption | omega) | exact decide_eq_false (by first | assumption | exact not_not_intro (by assumption) | omega) | fail))) rfl ?_ | refine OW.pass (gd_no rfl rfl rfl (by (first | rfl | assumption | exact decide_eq_true (by first | assumption | omega) | exact decide_eq_false (by first | assumption | exact not_not_intro (by assumption) | omega) | fail))) rfl ?_ | refine OW.pass (gd_undef rfl rfl rfl) rfl ?_ | (refine OW.split_dnot rfl rfl rfl ?_ ?_ <;> intro _ <;> try (exfalso; omega)) | (refine OW.split_dec rfl rfl rfl ?_ ?_ <;> intro _ <;> try (exfalso; omega)) | (refine OW.split rfl rfl rfl ?_ ?_ <;> intro _) | fail)) | (refine CW.d ?_; first | (refine dk 0 ?_; refine CW.seq ?_) | (refine dk 1 ?_; refine CW.region ?_) | (refine dk 7 ?_; refine CW.block ?_)) | refine OW.nil ?_ | refine PK.code_normal ?_ | fail | fail)
  refine (term_any k (Nat.le_refl _)).same ?_
  repeat' (first | (refine St.d ?_; first | (refine dk 0 ?_; refine St.move rfl ?_) | (refine dk 4 ?_; first | refine St.fieldAddr0 pg rfl rfl rfl rfl ?_ | refine St.fieldAddr pg rfl rfl rfl rfl ?_ | fail) | (refine dk 2 ?_; first | refine St.load pg rfl rfl rfl (by (first | assumption | exact Blk.cel (by (repeat (first | assumption | exact New.blk (by assumption) | exact Upd.blk (by assumption) | (apply New.old; assumption) | (apply Upd.keep; assumption; (focus (first | assumption | exact Ne.symm (by assumption) | omega | (intro hne; simp only at hne; omega)))) | (apply Stp.blk0; assumption) | (apply Stp.blk1; assumption; (focus (first | assumption | exact Ne.symm (by assumption) | omega | (intro hne; simp only at hne; omega))))))) (by rfl) | exact Cels.fld (by assumption) (by rfl) | exact Cels.fld0 (by assumption) (by rfl) | (repeat (first | assumption | (apply New.oldc; assumption) | (apply Upd.keepc; assumption; (focus (first | assumption | exact Ne.symm (by assumption) | omega | (intro hne; simp only at hne; omega)))) | (apply Stp.cel0; assumption))))) (by first | exact List.not_mem_nil | assumption) rfl ?_ | refine St.loadS pg rfl rfl rfl (by first | assumption | exact Blk.cels0 (by (repeat (first | assumption | exact New.blk (by assumption) | exact Upd.blk (by assumption) | (apply New.old; assumption) | (apply Upd.keep; assumption; (focus (first | assumption | exact Ne.symm (by assumption) | omega | (intro hne; simp only at hne; omega)))) | (apply Stp.blk0; assumption) | (apply Stp.blk1; assumption; (focus (first | assumption | exact Ne.symm (by assumption) | omega | (intro hne; simp only at hne; omega))))))) | (repeat (first | assumption | (apply Cels.newc; assumption) | (apply Cels.stpc; assumption) | (apply Cels.updc; assumption; (focus (first | assumption | exact Ne.symm (by assumption) | omega | (intro hne; simp only at hne; omega))))))) (by first | exact List.not_mem_nil | assumption) rfl rfl ?_ | fail) | (refine dk 1 ?_; refine St.assign rfl ?_) | (refine dk 5 ?_; refine St.nilCheck rfl ?_) | (refine dk 23 ?_; first | refine St.call pg rfl rfl rfl ?_ | refine St.call0 pg rfl rfl rfl ?_ | refine St.callX pg rfl rfl rfl ?_ | fail) | (refine dk 6 ?_; first | refine St.pick_true rfl (by (first | rfl | assumption | exact decide_eq_true (by first | assumption | omega) | exact decide_eq_false (by first | assumption | exact not_not_intro (by assumption) | omega) | fail)) rfl ?_ | refine St.pick_false rfl (by (first | rfl | assumption | exact decide_eq_true (by first | assumption | omega) | exact decide_eq_false (by first | assumption | exact not_not_intro (by assumption) | omega) | fail)) rfl ?_ | fail) | (refine dk 14 ?_; refine St.lss rfl rfl ?_) | (refine dk 11 ?_; refine St.len pg rfl rfl rfl ?_) | (refine dk 17 ?_; refine St.geq rfl rfl ?_) | (refine dk 28 ?_; refine St.build pg rfl rfl rfl rfl rfl (by (repeat (first | exact Fill.nil | (apply Fill.one; rfl; rfl; (focus (first | exact SetL.set (by assumption) | (repeat (first | exact SetL.z | apply SetL.s))))) | (apply Fill.agg; rfl; rfl; (focus (repeat (first | exact SetR.z | (apply SetR.c; (focus (first | exact SetL.set (by assumption) | (repeat (first | exact SetL.z | apply SetL.s)))))))))))) ?_)) | (refine OW.d ?_; first | (refine dk 0 ?_; refine OW.step (gd_none rfl) rfl ?_) | (refine dk 1 ?_; first | refine OW.step (gd_yes rfl rfl rfl (by (first | rfl | assumption | exact decide_eq_true (by first | assumption | omega) | exact decide_eq_false (by first | assumption | exact not_not_intro (by assumption) | omega) | fail))) rfl ?_ | refine OW.pass (gd_no rfl rfl rfl (by (first | rfl | assumption | exact decide_eq_true (by first | assumption | omega) | exact decide_eq_false (by first | assumption | exact not_not_intro (by assumption) | omega) | fail))) rfl ?_ | refine OW.pass (gd_undef rfl rfl rfl) rfl ?_ | (refine OW.split_dnot rfl rfl rfl ?_ ?_ <;> intro _ <;> try (exfalso; omega)) | (refine OW.split_dec rfl rfl rfl ?_ ?_ <;> intro _ <;> try (exfalso; omega)) | (refine OW.split rfl rfl rfl ?_ ?_ <;> intro _) | fail)) | (refine CW.d ?_; first | (refine dk 0 ?_; refine CW.seq ?_) | (refine dk 1 ?_; refine CW.region ?_) | (refine dk 3 ?_; first | refine CW.cond_true rfl (by (first | rfl | assumption | exact decide_eq_true (by first | assumption | omega) | exact decide_eq_false (by first | assumption | exact not_not_intro (by assumption) | omega) | fail)) ?_ | refine CW.cond_false rfl (by (first | rfl | assumption | exact decide_eq_true (by first | assumption | omega) | exact decide_eq_false (by first | assumption | exact not_not_intro (by assumption) | omega) | fail)) ?_ | (refine CW.cond_dnot rfl ?_ ?_ <;> intro _ <;> try (exfalso; omega)) | (refine CW.cond_dec rfl ?_ ?_ <;> intro _ <;> try (exfalso; omega)) | (refine CW.cond rfl ?_ ?_ <;> intro _) | fail) | (refine dk 4 ?_; refine CW.skip ?_) | (refine dk 5 ?_; refine CW.ret ?_)) | refine OW.nil ?_ | refine PK.code_normal ?_ | refine PK.blk_normal ?_ | refine PK.code_ret ?_ | refine PK.blk_ret ?_ | refine PK.nil_ret ?_ | fail | fail)
  · rw [show leadR g t = (g, 0, 1) from if_pos (by omega)]
    exact ⟨_, ResOK.two rfl rfl, rfl, k.ou k.old, .refl⟩
  · rw [show leadR g t = (g, 0, 8) by unfold leadR; rw [if_neg (by omega), if_pos (by omega)]]
    exact ⟨_, ResOK.two rfl rfl, rfl, k.ou k.old, .refl⟩
  rename_i hterm hlen
  have htv : ¬ (t < 1 ∨ 1048576 < t ∨ t < termAt g.ents g.ents.length) := by omega
  have hl2 : g.ents.length < 1024 := by omega
  have hval := lead_val k.inv htv hl2
  have hR : leadR g t = (leadS g t, (g.ents.length : Int) + 1, 0) := by unfold leadR; rw [if_neg htv, if_neg (by omega)]
  rw [hR]
  have hok1 : LogOK { g with ents := g.ents ++ [emptyE t] } := ⟨k.inv.n5, k.inv.i, hval, by have := k.inv.cm; simp; omega, k.inv.ld, fun h0 j hj => by have := k.inv.pr h0 j hj; simp; omega⟩
  refine (add_any (w := .slice none 0 0) (e := emptyE t) k ⟨⟨Sl.nil⟩, by simp [emptyE], by simp [emptyE]⟩ ⟨by simp [emptyE, rng]; omega, by simp [emptyE, rng], by simp [emptyE, rng], by simp [emptyE, rng], by simp [emptyE, rng]⟩ (by simp [emptyE]) hl2 hok1).mono ?_
  rintro _ h1 ⟨rfl, k1, f1⟩
  obtain ⟨L1, ev1, hL1, hc1, ho1, hb1⟩ := k1.ok
  have h4l : 4 < L1.length := by have := hc1.len; omega
  obtain ⟨tn, rfl⟩ : ∃ tn : Nat, t = tn := ⟨t.toNat, by omega⟩
  repeat' (first | (refine St.d ?_; first | (refine dk 0 ?_; refine St.move rfl ?_) | (refine dk 4 ?_; first | refine St.fieldAddr0 pg rfl rfl rfl rfl ?_ | refine St.fieldAddr pg rfl rfl rfl rfl ?_ | fail) | (refine dk 1 ?_; refine St.assign rfl ?_) | (refine dk 5 ?_; refine St.nilCheck rfl ?_) | (refine dk 3 ?_; first | (refine St.store pg rfl rfl rfl rfl rfl (by (repeat (first | assumption | exact New.blk (by assumption) | exact Upd.blk (by assumption) | (apply New.old; assumption) | (apply Upd.keep; assumption; (focus (first | assumption | exact Ne.symm (by assumption) | omega | (intro hne; simp only at hne; omega)))) | (apply Stp.blk0; assumption) | (apply Stp.blk1; assumption; (focus (first | assumption | exact Ne.symm (by assumption) | omega | (intro hne; simp only at hne; omega))))))) (by (first | exact SetL.set (by assumption) | (repeat (first | exact SetL.z | apply SetL.s)))) rfl ?_; intro _ _ _) | (refine St.storeS pg rfl rfl rfl rfl (by simp) (by first | (simp [Value.oneCell', *]; done) | (intro u hu; simp only [List.mem_cons, List.not_mem_nil, or_false] at hu; repeat' (first | (rcases hu with rfl | hu; first | rfl | assumption) | (subst hu; first | rfl | assumption)))) (by (repeat (first | assumption | exact New.blk (by assumption) | exact Upd.blk (by assumption) | (apply New.old; assumption) | (apply Upd.keep; assumption; (focus (first | assumption | exact Ne.symm (by assumption) | omega | (intro hne; simp only at hne; omega)))) | (apply Stp.blk0; assumption) | (apply Stp.blk1; assumption; (focus (first | assumption | exact Ne.symm (by assumption) | omega | (intro hne; simp only at hne; omega))))))) (by (repeat (first | exact SetR.z | (apply SetR.c; (focus (first | exact SetL.set (by assumption) | (repeat (first | exact SetL.z | apply SetL.s)))))))) rfl ?_; intro _ _ _) | fail)) | (refine OW.d ?_; first | (refine dk 0 ?_; refine OW.step (gd_none rfl) rfl ?_) | (refine dk 1 ?_; first | refine OW.step (gd_yes rfl rfl rfl (by (first | rfl | assumption | exact decide_eq_true (by first | assumption | omega) | exact decide_eq_false (by first | assumption | exact not_not_intro (by assumption) | omega) | fail))) rfl ?_ | refine OW.pass (gd_no rfl rfl rfl (by (first | rfl | assumption | exact decide_eq_true (by first | assumption | omega) | exact decide_eq_false (by first | assumption | exact not_not_intro (by assumption) | omega) | fail))) rfl ?_ | refine OW.pass (gd_undef rfl rfl rfl) rfl ?_ | (refine OW.split_dnot rfl rfl rfl ?_ ?_ <;> intro _ <;> try (exfalso; omega)) | (refine OW.split_dec rfl rfl rfl ?_ ?_ <;> intro _ <;> try (exfalso; omega)) | (refine OW.split rfl rfl rfl ?_ ?_ <;> intro _) | fail)) | (refine CW.d ?_; first | (refine dk 0 ?_; refine CW.seq ?_) | (refine dk 1 ?_; refine CW.region ?_) | (refine dk 7 ?_; refine CW.block ?_)) | refine OW.nil ?_ | refine PK.code_normal ?_ | fail | fail)
  rename_i h2 hu2 z2
  have hc2 := hc1.setL tn
  have hL2 := hu2.blk
  have ho2 := ho1.stp hu2.stp (fun b hb => by simpa using hb.2.1) (fun b hb => by simpa using (hb1 b hb).2)
  have f2 : FP O h h2 := f1.trans (FP.ofStp hu2.stp (O := fun b => b = K) (by simp)) (fun b hb => .inl (hb ▸ k.self))
  refine CW.loop (fun j : Nat => [(0, .pointer (some ⟨K, 0, none⟩)), (6, .int .i64 (g.ents.length + 1)), (41, .int .i64 j)])
    (fun j h3 => j ≤ 5 ∧ h3.size = h2.size ∧ FP O h h3 ∧ ∃ L, Blk h3 K 77 L ∧ LogC L { g with ents := g.ents ++ [emptyE tn], leads := tn, nx := fun x => if x < j then g.ents.length + 1 else g.nx x, mt := fun x => if x < j then 0 else g.mt x } ev1 ∧
      OwnE h3 (fun b => Ou O h h1 b ∧ b ≠ K ∧ b ∉ blkOf ev1) ev1 (g.ents ++ [emptyE tn])) (fun j => 5 - j) 0 (by (repeat (first | exact trivial | refine ⟨rfl, ?_⟩)))
    ⟨by omega, rfl, f2, _, hL2, by simpa using hc2, ho2⟩ ?_
  rintro j h3 ⟨hj, hsz, f3, L, hL, hc, ho⟩
  have hLl := hc.len
  by_cases hj5 : j < 5
  · have b1 : 5 + j * 2 < L.length := by omega
    have b2 : 5 + j * 2 + 1 < (L.set (5 + j * 2) (.int .i64 (g.ents.length + 1))).length := by rw [List.length_set]; omega
    repeat' (first | (refine St.d ?_; first | (refine dk 0 ?_; refine St.move rfl ?_) | (refine dk 4 ?_; first | refine St.fieldAddr0 pg rfl rfl rfl rfl ?_ | refine St.fieldAddr pg rfl rfl rfl rfl ?_ | fail) | (refine dk 1 ?_; refine St.assign rfl ?_) | (refine dk 5 ?_; refine St.nilCheck rfl ?_) | (refine dk 3 ?_; first | (refine St.store pg rfl rfl rfl rfl rfl (by (repeat (first | assumption | exact New.blk (by assumption) | exact Upd.blk (by assumption) | (apply New.old; assumption) | (apply Upd.keep; assumption; (focus (first | assumption | exact Ne.symm (by assumption) | omega | (intro hne; simp only at hne; omega)))) | (apply Stp.blk0; assumption) | (apply Stp.blk1; assumption; (focus (first | assumption | exact Ne.symm (by assumption) | omega | (intro hne; simp only at hne; omega))))))) (by (first | exact SetL.set (by assumption) | (repeat (first | exact SetL.z | apply SetL.s)))) rfl ?_; intro _ _ _) | (refine St.storeS pg rfl rfl rfl rfl (by simp) (by first | (simp [Value.oneCell', *]; done) | (intro u hu; simp only [List.mem_cons, List.not_mem_nil, or_false] at hu; repeat' (first | (rcases hu with rfl | hu; first | rfl | assumption) | (subst hu; first | rfl | assumption)))) (by (repeat (first | assumption | exact New.blk (by assumption) | exact Upd.blk (by assumption) | (apply New.old; assumption) | (apply Upd.keep; assumption; (focus (first | assumption | exact Ne.symm (by assumption) | omega | (intro hne; simp only at hne; omega)))) | (apply Stp.blk0; assumption) | (apply Stp.blk1; assumption; (focus (first | assumption | exact Ne.symm (by assumption) | omega | (intro hne; simp only at hne; omega))))))) (by (repeat (first | exact SetR.z | (apply SetR.c; (focus (first | exact SetL.set (by assumption) | (repeat (first | exact SetL.z | apply SetL.s)))))))) rfl ?_; intro _ _ _) | fail) | (refine dk 14 ?_; refine St.lss rfl rfl ?_) | (refine dk 18 ?_; refine St.add rfl rfl (by omega) ?_) | (refine dk 10 ?_; first | refine St.indexAddr1 pg rfl rfl rfl rfl rfl rfl rfl (by first | omega | decide | exact Nat.succ_pos _ | (show 0 < _; omega)) ?_ | refine St.indexAddr pg rfl rfl rfl rfl rfl rfl (by first | omega | decide | exact Nat.succ_pos _ | (show 0 < _; omega)) ?_ | refine St.indexAddrA1 pg rfl rfl rfl rfl rfl rfl rfl (by first | omega | decide) ?_ | refine St.indexAddrA pg rfl rfl rfl rfl rfl rfl (by first | omega | decide) ?_ | fail) | (refine dk 28 ?_; refine St.build pg rfl rfl rfl rfl rfl (by (repeat (first | exact Fill.nil | (apply Fill.one; rfl; rfl; (focus (first | exact SetL.set (by assumption) | (repeat (first | exact SetL.z | apply SetL.s))))) | (apply Fill.agg; rfl; rfl; (focus (repeat (first | exact SetR.z | (apply SetR.c; (focus (first | exact SetL.set (by assumption) | (repeat (first | exact SetL.z | apply SetL.s)))))))))))) ?_)) | (refine OW.d ?_; first | (refine dk 0 ?_; refine OW.step (gd_none rfl) rfl ?_) | (refine dk 1 ?_; first | refine OW.step (gd_yes rfl rfl rfl (by (first | rfl | assumption | exact decide_eq_true (by first | assumption | omega) | exact decide_eq_false (by first | assumption | exact not_not_intro (by assumption) | omega) | fail))) rfl ?_ | refine OW.pass (gd_no rfl rfl rfl (by (first | rfl | assumption | exact decide_eq_true (by first | assumption | omega) | exact decide_eq_false (by first | assumption | exact not_not_intro (by assumption) | omega) | fail))) rfl ?_ | refine OW.pass (gd_undef rfl rfl rfl) rfl ?_ | (refine OW.split_dnot rfl rfl rfl ?_ ?_ <;> intro _ <;> try (exfalso; omega)) | (refine OW.split_dec rfl rfl rfl ?_ ?_ <;> intro _ <;> try (exfalso; omega)) | (refine OW.split rfl rfl rfl ?_ ?_ <;> intro _) | fail)) | (refine CW.d ?_; first | (refine dk 0 ?_; refine CW.seq ?_) | (refine dk 1 ?_; refine CW.region ?_) | (refine dk 3 ?_; first | refine CW.cond_true rfl (by (first | rfl | assumption | exact decide_eq_true (by first | assumption | omega) | exact decide_eq_false (by first | assumption | exact not_not_intro (by assumption) | omega) | fail)) ?_ | refine CW.cond_false rfl (by (first | rfl | assumption | exact decide_eq_true (by first | assumption | omega) | exact decide_eq_false (by first | assumption | exact not_not_intro (by assumption) | omega) | fail)) ?_ | (refine CW.cond_dnot rfl ?_ ?_ <;> intro _ <;> try (exfalso; omega)) | (refine CW.cond_dec rfl ?_ ?_ <;> intro _ <;> try (exfalso; omega)) | (refine CW.cond rfl ?_ ?_ <;> intro _) | fail) | (refine dk 4 ?_; refine CW.skip ?_) | (refine dk 7 ?_; refine CW.block ?_)) | refine OW.nil ?_ | refine PK.code_normal ?_ | refine PK.blk_normal ?_ | refine PK.lp_normal ?_ | fail | fail)
    rename_i h4 hu4 z4
    refine ⟨j + 1, by (repeat (first | exact trivial | refine ⟨rfl, ?_⟩)), ⟨hj5, by omega, f3.trans (FP.ofStp hu4.stp (O := fun b => b = K) (by simp)) (fun b hb => .inl (hb ▸ k.self)), _, hu4.blk, ?_, ho.stp hu4.stp (fun b hb => by simpa using hb.2.1) (fun b hb => by simpa using (hb1 b hb).2)⟩, by omega⟩
    have hcc := (hc.setN hj5 (g.ents.length + 1)).setM hj5 0
    have e1 : upF (fun x => if x < j then g.ents.length + 1 else g.nx x) j (g.ents.length + 1) = fun x => if x < j + 1 then g.ents.length + 1 else g.nx x := by
      funext x
      simp only [upF]
      by_cases hx : x = j
      · subst hx; rw [if_pos rfl, if_pos (by omega)]
      · rw [if_neg hx]
        by_cases hx2 : x < j
        · rw [if_pos hx2, if_pos (by omega)]
        · rw [if_neg hx2, if_neg (by omega)]
    have e2 : upF (fun x => if x < j then 0 else g.mt x) j 0 = fun x => if x < j + 1 then 0 else g.mt x := by
      funext x
      simp only [upF]
      by_cases hx : x = j
      · subst hx; rw [if_pos rfl, if_pos (by omega)]
      · rw [if_neg hx]
        by_cases hx2 : x < j
        · rw [if_pos hx2, if_pos (by omega)]
        · rw [if_neg hx2, if_neg (by omega)]
    simp only at hcc
    rw [e1, e2] at hcc
    exact hcc
  · have : j = 5 := by omega
    subst this
    repeat' (first | (refine St.d ?_; first | (refine dk 0 ?_; refine St.move rfl ?_) | (refine dk 1 ?_; refine St.assign rfl ?_) | (refine dk 14 ?_; refine St.lss rfl rfl ?_)) | (refine OW.d ?_; first | (refine dk 0 ?_; refine OW.step (gd_none rfl) rfl ?_) | (refine dk 1 ?_; first | refine OW.step (gd_yes rfl rfl rfl (by (first | rfl | assumption | exact decide_eq_true (by first | assumption | omega) | exact decide_eq_false (by first | assumption | exact not_not_intro (by assumption) | omega) | fail))) rfl ?_ | refine OW.pass (gd_no rfl rfl rfl (by (first | rfl | assumption | exact decide_eq_true (by first | assumption | omega) | exact decide_eq_false (by first | assumption | exact not_not_intro (by assumption) | omega) | fail))) rfl ?_ | refine OW.pass (gd_undef rfl rfl rfl) rfl ?_ | (refine OW.split_dnot rfl rfl rfl ?_ ?_ <;> intro _ <;> try (exfalso; omega)) | (refine OW.split_dec rfl rfl rfl ?_ ?_ <;> intro _ <;> try (exfalso; omega)) | (refine OW.split rfl rfl rfl ?_ ?_ <;> intro _) | fail)) | (refine CW.d ?_; first | (refine dk 0 ?_; refine CW.seq ?_) | (refine dk 1 ?_; refine CW.region ?_) | (refine dk 3 ?_; first | refine CW.cond_true rfl (by (first | rfl | assumption | exact decide_eq_true (by first | assumption | omega) | exact decide_eq_false (by first | assumption | exact not_not_intro (by assumption) | omega) | fail)) ?_ | refine CW.cond_false rfl (by (first | rfl | assumption | exact decide_eq_true (by first | assumption | omega) | exact decide_eq_false (by first | assumption | exact not_not_intro (by assumption) | omega) | fail)) ?_ | (refine CW.cond_dnot rfl ?_ ?_ <;> intro _ <;> try (exfalso; omega)) | (refine CW.cond_dec rfl ?_ ?_ <;> intro _ <;> try (exfalso; omega)) | (refine CW.cond rfl ?_ ?_ <;> intro _) | fail) | (refine dk 5 ?_; refine CW.ret ?_) | (refine dk 6 ?_; refine CW.exit ?_)) | refine OW.nil ?_ | refine PK.code_normal ?_ | refine PK.code_exit ?_ | refine PK.lp_exit ?_ | refine PK.blk_exit ?_ | refine PK.nil_ret ?_ | fail | fail)
    have hold : ∀ b, Ou O h h1 b → Ou O h h3 b := fun b hb => hb.elim .inl (fun h9 => .inr ⟨h9.1, by omega⟩)
    refine ⟨_, ResOK.two rfl rfl, rfl, ⟨⟨L, ev1, hL, ?_, ho.mono (fun b hb => ⟨hold b hb.1, hb.2⟩) (fun b hb hf => hf.2.2 hb), fun b hb => ⟨hold b (hb1 b hb).1, (hb1 b hb).2⟩⟩, .inl k.self, fun b hb => ?_, ?_⟩, f3⟩
    · refine ⟨hc.len, hc.n, hc.i, hc.e, hc.c, ?_, fun j hj => ?_, fun j hj => ?_⟩
      · have := hc.l
        simpa [leadS] using this
      · have := hc.nx j hj
        simpa [leadS, hj] using this
      · have := hc.mt j hj
        simpa [leadS, hj] using this
    · rcases hb with h9 | h9
      · have := k.old b h9; have := f3.size; omega
      · exact h9.2
    · exact ⟨k.inv.n5, k.inv.i, hval, by have := k.inv.cm; simp [leadS]; omega, by simp [leadS]; omega, fun h0 j hj => by simp [leadS]⟩
end Go.Proofs.Ytdoefbnjehngmaa
