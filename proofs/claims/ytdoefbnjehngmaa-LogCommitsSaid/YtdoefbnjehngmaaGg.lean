/- Contracts of package replog: New, Restore, add, Stop; conditions: the log lies in the heap. -/
import Derived.Test.YtdoefbnjehngmaaGf
namespace Go.Proofs.Ytdoefbnjehngmaa
open Go Go.CF
set_option maxRecDepth 20000

section
variable {L : List Value} {g : LogS} {ev : Value}
theorem LogC.setE (hc : LogC L g ev) (ev' : Value) (l : List Ent) : LogC (L.set 2 ev') { g with ents := l } ev' := by
  have hl := hc.len
  refine ⟨by simp [hl], ?_, ?_, ?_, ?_, ?_, fun j hj => ?_, fun j hj => ?_⟩
  · rw [List.getElem?_set_ne (by omega)]; exact hc.n
  · rw [List.getElem?_set_ne (by omega)]; exact hc.i
  · rw [List.getElem?_set_self (by omega)]
  · rw [List.getElem?_set_ne (by omega)]; exact hc.c
  · rw [List.getElem?_set_ne (by omega)]; exact hc.l
  · rw [List.getElem?_set_ne (by omega)]; exact hc.nx j hj
  · rw [List.getElem?_set_ne (by omega)]; exact hc.mt j hj
theorem LogC.setC (hc : LogC L g ev) (c : Nat) : LogC (L.set 3 (.int .i64 c)) { g with commit := c } ev := by
  have hl := hc.len
  refine ⟨by simp [hl], ?_, ?_, ?_, ?_, ?_, fun j hj => ?_, fun j hj => ?_⟩
  · rw [List.getElem?_set_ne (by omega)]; exact hc.n
  · rw [List.getElem?_set_ne (by omega)]; exact hc.i
  · rw [List.getElem?_set_ne (by omega)]; exact hc.e
  · rw [List.getElem?_set_self (by omega)]
  · rw [List.getElem?_set_ne (by omega)]; exact hc.l
  · rw [List.getElem?_set_ne (by omega)]; exact hc.nx j hj
  · rw [List.getElem?_set_ne (by omega)]; exact hc.mt j hj
theorem LogC.setL (hc : LogC L g ev) (c : Nat) : LogC (L.set 4 (.int .i64 c)) { g with leads := c } ev := by
  have hl := hc.len
  refine ⟨by simp [hl], ?_, ?_, ?_, ?_, ?_, fun j hj => ?_, fun j hj => ?_⟩
  · rw [List.getElem?_set_ne (by omega)]; exact hc.n
  · rw [List.getElem?_set_ne (by omega)]; exact hc.i
  · rw [List.getElem?_set_ne (by omega)]; exact hc.e
  · rw [List.getElem?_set_ne (by omega)]; exact hc.c
  · rw [List.getElem?_set_self (by omega)]
  · rw [List.getElem?_set_ne (by omega)]; exact hc.nx j hj
  · rw [List.getElem?_set_ne (by omega)]; exact hc.mt j hj
def upF (f : Nat → Nat) (j v : Nat) : Nat → Nat := fun k => if k = j then v else f k
theorem LogC.setN (hc : LogC L g ev) {j : Nat} (hj : j < 5) (c : Nat) : LogC (L.set (5 + j * 2) (.int .i64 c)) { g with nx := upF g.nx j c } ev := by
  have hl := hc.len
  refine ⟨by simp [hl], ?_, ?_, ?_, ?_, ?_, fun k hk => ?_, fun k hk => ?_⟩
  · rw [List.getElem?_set_ne (by omega)]; exact hc.n
  · rw [List.getElem?_set_ne (by omega)]; exact hc.i
  · rw [List.getElem?_set_ne (by omega)]; exact hc.e
  · rw [List.getElem?_set_ne (by omega)]; exact hc.c
  · rw [List.getElem?_set_ne (by omega)]; exact hc.l
  · by_cases hkj : k = j
    · subst hkj; rw [List.getElem?_set_self (by omega)]; simp [upF]
    · rw [List.getElem?_set_ne (by omega)]; simp only [upF, if_neg hkj]; exact hc.nx k hk
  · rw [List.getElem?_set_ne (by omega)]; exact hc.mt k hk
theorem LogC.setM (hc : LogC L g ev) {j : Nat} (hj : j < 5) (c : Nat) : LogC (L.set (5 + j * 2 + 1) (.int .i64 c)) { g with mt := upF g.mt j c } ev := by
  have hl := hc.len
  refine ⟨by simp [hl], ?_, ?_, ?_, ?_, ?_, fun k hk => ?_, fun k hk => ?_⟩
  · rw [List.getElem?_set_ne (by omega)]; exact hc.n
  · rw [List.getElem?_set_ne (by omega)]; exact hc.i
  · rw [List.getElem?_set_ne (by omega)]; exact hc.e
  · rw [List.getElem?_set_ne (by omega)]; exact hc.c
  · rw [List.getElem?_set_ne (by omega)]; exact hc.l
  · rw [List.getElem?_set_ne (by omega)]; exact hc.nx k hk
  · by_cases hkj : k = j
    · subst hkj; rw [List.getElem?_set_self (by omega)]; simp [upF]
    · rw [List.getElem?_set_ne (by omega)]; simp only [upF, if_neg hkj]; exact hc.mt k hk
end

def log0 (n i : Nat) (l : List Ent) : LogS := { n := n, i := i, ents := l, commit := 0, leads := 0, nx := fun _ => 0, mt := fun _ => 0 }
set_option maxHeartbeats 1000000 in
theorem restore_ok {h : Heap} {F : Nat → Prop} {v : Value} {l : List Ent} {n i : Nat} (hs : ents.R h F [v] l) (hn : 1 ≤ n ∧ n ≤ 5) (hi : i < n) (hv : valE n l) :
    CallsH Try.prog 10 #[.int .i64 n, .int .i64 i, v] h fun x h' => ∃ K, x = .tuple #[.pointer (some ⟨K, 0, none⟩), .int .i64 0] ∧ LogAt h' K (log0 n i l) (fun b => h.size ≤ b ∧ b < h'.size) ∧ Stp [] h h' := by
  obtain ⟨p, cap, e0⟩ := sliceR_shape hs
  simp only [List.cons.injEq, and_true] at e0
  subst e0
  refine CallsH.of (l := [_, _, _]) Try.func10 rfl Try.ntmps10 Try.results10 rfl ?_
  repeat' (first | (refine St.d ?_; first | (refine dk 0 ?_; refine St.move rfl ?_) | (refine dk 1 ?_; refine St.assign rfl ?_) | (refine dk 23 ?_; first | refine St.call pg rfl rfl rfl ?_ | refine St.call0 pg rfl rfl rfl ?_ | refine St.callX pg rfl rfl rfl ?_ | fail) | (refine dk 6 ?_; first | refine St.pick_true rfl (by (first | rfl | assumption | exact decide_eq_true (by first | assumption | omega) | exact decide_eq_false (by first | assumption | exact not_not_intro (by assumption) | omega) | fail)) rfl ?_ | refine St.pick_false rfl (by (first | rfl | assumption | exact decide_eq_true (by first | assumption | omega) | exact decide_eq_false (by first | assumption | exact not_not_intro (by assumption) | omega) | fail)) rfl ?_ | fail) | (refine dk 14 ?_; refine St.lss rfl rfl ?_) | (refine dk 17 ?_; refine St.geq rfl rfl ?_) | (refine dk 16 ?_; refine St.gtr rfl rfl ?_)) | (refine OW.d ?_; first | (refine dk 0 ?_; refine OW.step (gd_none rfl) rfl ?_) | (refine dk 1 ?_; first | refine OW.step (gd_yes rfl rfl rfl (by (first | rfl | assumption | exact decide_eq_true (by first | assumption | omega) | exact decide_eq_false (by first | assumption | exact not_not_intro (by assumption) | omega) | fail))) rfl ?_ | refine OW.pass (gd_no rfl rfl rfl (by (first | rfl | assumption | exact decide_eq_true (by first | assumption | omega) | exact decide_eq_false (by first | assumption | exact not_not_intro (by assumption) | omega) | fail))) rfl ?_ | refine OW.pass (gd_undef rfl rfl rfl) rfl ?_ | (refine OW.split_dnot rfl rfl rfl ?_ ?_ <;> intro _ <;> try (exfalso; omega)) | (refine OW.split_dec rfl rfl rfl ?_ ?_ <;> intro _ <;> try (exfalso; omega)) | (refine OW.split rfl rfl rfl ?_ ?_ <;> intro _) | fail)) | (refine CW.d ?_; first | (refine dk 0 ?_; refine CW.seq ?_) | (refine dk 1 ?_; refine CW.region ?_)) | refine OW.nil ?_ | refine PK.code_normal ?_ | fail | fail)
  refine (valid_any (n := n) hs).mono ?_
  rintro _ h1 ⟨rfl, s1⟩
  rw [decide_eq_true hv]
  repeat' (first | (refine St.d ?_; first | (refine dk 0 ?_; refine St.move rfl ?_) | (refine dk 23 ?_; first | refine St.call pg rfl rfl rfl ?_ | refine St.call0 pg rfl rfl rfl ?_ | refine St.callX pg rfl rfl rfl ?_ | fail) | (refine dk 6 ?_; first | refine St.pick_true rfl (by (first | rfl | assumption | exact decide_eq_true (by first | assumption | omega) | exact decide_eq_false (by first | assumption | exact not_not_intro (by assumption) | omega) | fail)) rfl ?_ | refine St.pick_false rfl (by (first | rfl | assumption | exact decide_eq_true (by first | assumption | omega) | exact decide_eq_false (by first | assumption | exact not_not_intro (by assumption) | omega) | fail)) rfl ?_ | fail) | (refine dk 7 ?_; first | refine St.not_dec rfl ?_ | refine St.not rfl ?_ | fail)) | (refine OW.d ?_; first | (refine dk 0 ?_; refine OW.step (gd_none rfl) rfl ?_) | (refine dk 1 ?_; first | refine OW.step (gd_yes rfl rfl rfl (by (first | rfl | assumption | exact decide_eq_true (by first | assumption | omega) | exact decide_eq_false (by first | assumption | exact not_not_intro (by assumption) | omega) | fail))) rfl ?_ | refine OW.pass (gd_no rfl rfl rfl (by (first | rfl | assumption | exact decide_eq_true (by first | assumption | omega) | exact decide_eq_false (by first | assumption | exact not_not_intro (by assumption) | omega) | fail))) rfl ?_ | refine OW.pass (gd_undef rfl rfl rfl) rfl ?_ | (refine OW.split_dnot rfl rfl rfl ?_ ?_ <;> intro _ <;> try (exfalso; omega)) | (refine OW.split_dec rfl rfl rfl ?_ ?_ <;> intro _ <;> try (exfalso; omega)) | (refine OW.split rfl rfl rfl ?_ ?_ <;> intro _) | fail)) | (refine CW.d ?_; first | (refine dk 0 ?_; refine CW.seq ?_) | (refine dk 1 ?_; refine CW.region ?_) | (refine dk 3 ?_; first | refine CW.cond_true rfl (by (first | rfl | assumption | exact decide_eq_true (by first | assumption | omega) | exact decide_eq_false (by first | assumption | exact not_not_intro (by assumption) | omega) | fail)) ?_ | refine CW.cond_false rfl (by (first | rfl | assumption | exact decide_eq_true (by first | assumption | omega) | exact decide_eq_false (by first | assumption | exact not_not_intro (by assumption) | omega) | fail)) ?_ | (refine CW.cond_dnot rfl ?_ ?_ <;> intro _ <;> try (exfalso; omega)) | (refine CW.cond_dec rfl ?_ ?_ <;> intro _ <;> try (exfalso; omega)) | (refine CW.cond rfl ?_ ?_ <;> intro _) | fail) | (refine dk 4 ?_; refine CW.skip ?_)) | refine OW.nil ?_ | refine PK.code_normal ?_ | fail | fail)
  refine (clone_ents (Rp.grow _ s1 hs) (by have := hv.2; omega) (hv.vot (by omega))).mono ?_
  rintro cv h2 ⟨ho, s2, hnew⟩
  have hlt := ho.blk
  obtain ⟨cp, ccap, rfl⟩ := ho.shape
  have z1 := s1.size
  have z2 := s2.size
  repeat' (first | (refine St.d ?_; first | (refine dk 1 ?_; refine St.assign rfl ?_) | (refine dk 31 ?_; refine St.box rfl rfl rfl ?_; intro _ _ _ _ _) | (refine dk 28 ?_; refine St.build pg rfl rfl rfl rfl rfl (by (repeat (first | exact Fill.nil | (apply Fill.one; rfl; rfl; (focus (first | exact SetL.set (by assumption) | (repeat (first | exact SetL.z | apply SetL.s))))) | (apply Fill.agg; rfl; rfl; (focus (repeat (first | exact SetR.z | (apply SetR.c; (focus (first | exact SetL.set (by assumption) | (repeat (first | exact SetL.z | apply SetL.s)))))))))))) ?_)) | (refine OW.d ?_; first | (refine dk 0 ?_; refine OW.step (gd_none rfl) rfl ?_) | (refine dk 1 ?_; first | refine OW.step (gd_yes rfl rfl rfl (by (first | rfl | assumption | exact decide_eq_true (by first | assumption | omega) | exact decide_eq_false (by first | assumption | exact not_not_intro (by assumption) | omega) | fail))) rfl ?_ | refine OW.pass (gd_no rfl rfl rfl (by (first | rfl | assumption | exact decide_eq_true (by first | assumption | omega) | exact decide_eq_false (by first | assumption | exact not_not_intro (by assumption) | omega) | fail))) rfl ?_ | refine OW.pass (gd_undef rfl rfl rfl) rfl ?_ | (refine OW.split_dnot rfl rfl rfl ?_ ?_ <;> intro _ <;> try (exfalso; omega)) | (refine OW.split_dec rfl rfl rfl ?_ ?_ <;> intro _ <;> try (exfalso; omega)) | (refine OW.split rfl rfl rfl ?_ ?_ <;> intro _) | fail)) | (refine CW.d ?_; first | (refine dk 5 ?_; refine CW.ret ?_)) | refine OW.nil ?_ | refine PK.code_normal ?_ | refine PK.nil_ret ?_ | fail | fail)
  rename_i K h3 hn3 eK z3
  have hK := hn3.blk
  have s3 : Stp [] h2 h3 := hn3.stp
  refine ⟨_, ResOK.two rfl rfl, K, rfl, ⟨⟨_, .slice cp l.length ccap, hK, ⟨rfl, rfl, rfl, rfl, rfl, rfl, fun j hj => ?_, fun j hj => ?_⟩, (ho.mono (fun b hb => ⟨⟨by omega, by omega⟩, by omega, hb.2.2⟩) (fun b hb hf => hf.2.2 hb)).grow s3, fun b hb => ?_⟩, by omega, fun b hb => hb.2, ⟨hn, hi, hv, Nat.zero_le _, by simp [log0], by simp [log0]⟩⟩, s1.trans (s2.trans s3)⟩
  · match j, hj with
    | 0, _ => rfl
    | 1, _ => rfl
    | 2, _ => rfl
    | 3, _ => rfl
    | 4, _ => rfl
  · match j, hj with
    | 0, _ => rfl
    | 1, _ => rfl
    | 2, _ => rfl
    | 3, _ => rfl
    | 4, _ => rfl
  · have g1 := hnew b hb
    have g2 := hlt b hb
    omega
theorem restore_bad {h : Heap} {F : Nat → Prop} {v : Value} {l : List Ent} {n i : Int} (hs : ents.R h F [v] l) (hb : ¬ (1 ≤ n ∧ n ≤ 5 ∧ 0 ≤ i ∧ i < n ∧ valE n l)) :
    CallsH Try.prog 10 #[.int .i64 n, .int .i64 i, v] h fun x h' => x = .tuple #[.pointer none, .int .i64 1] ∧ Stp [] h h' := by
  obtain ⟨p, cap, e0⟩ := sliceR_shape hs
  simp only [List.cons.injEq, and_true] at e0
  subst e0
  refine CallsH.of (l := [_, _, _]) Try.func10 rfl Try.ntmps10 Try.results10 rfl ?_
  by_cases hc : 1 ≤ n ∧ n ≤ 5 ∧ 0 ≤ i ∧ i < n
  · have hv : ¬ valE n l := fun hv => hb ⟨hc.1, hc.2.1, hc.2.2.1, hc.2.2.2, hv⟩
    repeat' (first | (refine St.d ?_; first | (refine dk 0 ?_; refine St.move rfl ?_) | (refine dk 1 ?_; refine St.assign rfl ?_) | (refine dk 23 ?_; first | refine St.call pg rfl rfl rfl ?_ | refine St.call0 pg rfl rfl rfl ?_ | refine St.callX pg rfl rfl rfl ?_ | fail) | (refine dk 6 ?_; first | refine St.pick_true rfl (by (first | rfl | assumption | exact decide_eq_true (by first | assumption | omega) | exact decide_eq_false (by first | assumption | exact not_not_intro (by assumption) | omega) | fail)) rfl ?_ | refine St.pick_false rfl (by (first | rfl | assumption | exact decide_eq_true (by first | assumption | omega) | exact decide_eq_false (by first | assumption | exact not_not_intro (by assumption) | omega) | fail)) rfl ?_ | fail) | (refine dk 14 ?_; refine St.lss rfl rfl ?_) | (refine dk 17 ?_; refine St.geq rfl rfl ?_) | (refine dk 16 ?_; refine St.gtr rfl rfl ?_)) | (refine OW.d ?_; first | (refine dk 0 ?_; refine OW.step (gd_none rfl) rfl ?_) | (refine dk 1 ?_; first | refine OW.step (gd_yes rfl rfl rfl (by (first | rfl | assumption | exact decide_eq_true (by first | assumption | omega) | exact decide_eq_false (by first | assumption | exact not_not_intro (by assumption) | omega) | fail))) rfl ?_ | refine OW.pass (gd_no rfl rfl rfl (by (first | rfl | assumption | exact decide_eq_true (by first | assumption | omega) | exact decide_eq_false (by first | assumption | exact not_not_intro (by assumption) | omega) | fail))) rfl ?_ | refine OW.pass (gd_undef rfl rfl rfl) rfl ?_ | (refine OW.split_dnot rfl rfl rfl ?_ ?_ <;> intro _ <;> try (exfalso; omega)) | (refine OW.split_dec rfl rfl rfl ?_ ?_ <;> intro _ <;> try (exfalso; omega)) | (refine OW.split rfl rfl rfl ?_ ?_ <;> intro _) | fail)) | (refine CW.d ?_; first | (refine dk 0 ?_; refine CW.seq ?_) | (refine dk 1 ?_; refine CW.region ?_)) | refine OW.nil ?_ | refine PK.code_normal ?_ | fail | fail)
    refine (valid_any (n := n) hs).mono ?_
    rintro _ h1 ⟨rfl, s1⟩
    rw [decide_eq_false hv]
    repeat' (first | (refine St.d ?_; first | (refine dk 1 ?_; refine St.assign rfl ?_) | (refine dk 6 ?_; first | refine St.pick_true rfl (by (first | rfl | assumption | exact decide_eq_true (by first | assumption | omega) | exact decide_eq_false (by first | assumption | exact not_not_intro (by assumption) | omega) | fail)) rfl ?_ | refine St.pick_false rfl (by (first | rfl | assumption | exact decide_eq_true (by first | assumption | omega) | exact decide_eq_false (by first | assumption | exact not_not_intro (by assumption) | omega) | fail)) rfl ?_ | fail) | (refine dk 7 ?_; first | refine St.not_dec rfl ?_ | refine St.not rfl ?_ | fail)) | (refine OW.d ?_; first | (refine dk 0 ?_; refine OW.step (gd_none rfl) rfl ?_) | (refine dk 1 ?_; first | refine OW.step (gd_yes rfl rfl rfl (by (first | rfl | assumption | exact decide_eq_true (by first | assumption | omega) | exact decide_eq_false (by first | assumption | exact not_not_intro (by assumption) | omega) | fail))) rfl ?_ | refine OW.pass (gd_no rfl rfl rfl (by (first | rfl | assumption | exact decide_eq_true (by first | assumption | omega) | exact decide_eq_false (by first | assumption | exact not_not_intro (by assumption) | omega) | fail))) rfl ?_ | refine OW.pass (gd_undef rfl rfl rfl) rfl ?_ | (refine OW.split_dnot rfl rfl rfl ?_ ?_ <;> intro _ <;> try (exfalso; omega)) | (refine OW.split_dec rfl rfl rfl ?_ ?_ <;> intro _ <;> try (exfalso; omega)) | (refine OW.split rfl rfl rfl ?_ ?_ <;> intro _) | fail)) | (refine CW.d ?_; first | (refine dk 0 ?_; refine CW.seq ?_) | (refine dk 1 ?_; refine CW.region ?_) | (refine dk 3 ?_; first | refine CW.cond_true rfl (by (first | rfl | assumption | exact decide_eq_true (by first | assumption | omega) | exact decide_eq_false (by first | assumption | exact not_not_intro (by assumption) | omega) | fail)) ?_ | refine CW.cond_false rfl (by (first | rfl | assumption | exact decide_eq_true (by first | assumption | omega) | exact decide_eq_false (by first | assumption | exact not_not_intro (by assumption) | omega) | fail)) ?_ | (refine CW.cond_dnot rfl ?_ ?_ <;> intro _ <;> try (exfalso; omega)) | (refine CW.cond_dec rfl ?_ ?_ <;> intro _ <;> try (exfalso; omega)) | (refine CW.cond rfl ?_ ?_ <;> intro _) | fail) | (refine dk 5 ?_; refine CW.ret ?_)) | refine OW.nil ?_ | refine PK.code_normal ?_ | refine PK.code_ret ?_ | refine PK.nil_ret ?_ | fail | fail)
    exact ⟨_, ResOK.two rfl rfl, rfl, s1⟩
  · repeat' (first | (refine St.d ?_; first | (refine dk 0 ?_; refine St.move rfl ?_) | (refine dk 1 ?_; refine St.assign rfl ?_) | (refine dk 6 ?_; first | refine St.pick_true rfl (by (first | rfl | assumption | exact decide_eq_true (by first | assumption | omega) | exact decide_eq_false (by first | assumption | exact not_not_intro (by assumption) | omega) | fail)) rfl ?_ | refine St.pick_false rfl (by (first | rfl | assumption | exact decide_eq_true (by first | assumption | omega) | exact decide_eq_false (by first | assumption | exact not_not_intro (by assumption) | omega) | fail)) rfl ?_ | fail) | (refine dk 14 ?_; refine St.lss rfl rfl ?_) | (refine dk 17 ?_; refine St.geq rfl rfl ?_) | (refine dk 16 ?_; refine St.gtr rfl rfl ?_)) | (refine OW.d ?_; first | (refine dk 0 ?_; refine OW.step (gd_none rfl) rfl ?_) | (refine dk 1 ?_; first | refine OW.step (gd_yes rfl rfl rfl (by (first | rfl | assumption | exact decide_eq_true (by first | assumption | omega) | exact decide_eq_false (by first | assumption | exact not_not_intro (by assumption) | omega) | fail))) rfl ?_ | refine OW.pass (gd_no rfl rfl rfl (by (first | rfl | assumption | exact decide_eq_true (by first | assumption | omega) | exact decide_eq_false (by first | assumption | exact not_not_intro (by assumption) | omega) | fail))) rfl ?_ | refine OW.pass (gd_undef rfl rfl rfl) rfl ?_ | (refine OW.split_dnot rfl rfl rfl ?_ ?_ <;> intro _ <;> try (exfalso; omega)) | (refine OW.split_dec rfl rfl rfl ?_ ?_ <;> intro _ <;> try (exfalso; omega)) | (refine OW.split rfl rfl rfl ?_ ?_ <;> intro _) | fail)) | (refine CW.d ?_; first | (refine dk 0 ?_; refine CW.seq ?_) | (refine dk 1 ?_; refine CW.region ?_) | (refine dk 3 ?_; first | refine CW.cond_true rfl (by (first | rfl | assumption | exact decide_eq_true (by first | assumption | omega) | exact decide_eq_false (by first | assumption | exact not_not_intro (by assumption) | omega) | fail)) ?_ | refine CW.cond_false rfl (by (first | rfl | assumption | exact decide_eq_true (by first | assumption | omega) | exact decide_eq_false (by first | assumption | exact not_not_intro (by assumption) | omega) | fail)) ?_ | (refine CW.cond_dnot rfl ?_ ?_ <;> intro _ <;> try (exfalso; omega)) | (refine CW.cond_dec rfl ?_ ?_ <;> intro _ <;> try (exfalso; omega)) | (refine CW.cond rfl ?_ ?_ <;> intro _) | fail) | (refine dk 5 ?_; refine CW.ret ?_)) | refine OW.nil ?_ | refine PK.code_normal ?_ | refine PK.code_ret ?_ | refine PK.nil_ret ?_ | fail | fail)
    all_goals first
      | exact ⟨_, ResOK.two rfl rfl, rfl, Stp.refl _⟩
      | (exfalso; omega)
theorem ents_nil {h : Heap} {F : Nat → Prop} : ents.R h F [.slice none 0 0] [] := sliceR_nil
theorem new_ok {h : Heap} {n i : Nat} (hn : 1 ≤ n ∧ n ≤ 5) (hi : i < n) :
    CallsH Try.prog 9 #[.int .i64 n, .int .i64 i] h fun x h' => ∃ K, x = .tuple #[.pointer (some ⟨K, 0, none⟩), .int .i64 0] ∧ LogAt h' K (log0 n i []) (fun b => h.size ≤ b ∧ b < h'.size) ∧ Stp [] h h' := by
  refine CallsH.of (l := [_, _]) Try.func9 rfl Try.ntmps9 Try.results9 rfl ?_
  repeat' (first | (refine St.d ?_; first | (refine dk 0 ?_; refine St.move rfl ?_) | (refine dk 1 ?_; refine St.assign rfl ?_) | (refine dk 23 ?_; first | refine St.call pg rfl rfl rfl ?_ | refine St.call0 pg rfl rfl rfl ?_ | refine St.callX pg rfl rfl rfl ?_ | fail)) | (refine OW.d ?_; refine dk 0 ?_; refine OW.step (gd_none rfl) rfl ?_) | (refine CW.d ?_; first | (refine dk 0 ?_; refine CW.seq ?_) | (refine dk 1 ?_; refine CW.region ?_)) | refine OW.nil ?_ | refine PK.code_normal ?_ | fail | fail)
  refine (restore_ok (F := fun _ => True) (l := []) ents_nil hn hi ⟨fun j e hj => by simp at hj, by simp⟩).mono ?_
  rintro _ h1 ⟨K, rfl, hx⟩
  repeat' (first | (refine St.d ?_; first | (refine dk 1 ?_; refine St.assign rfl ?_) | (refine dk 9 ?_; refine St.extract rfl rfl ?_)) | (refine OW.d ?_; refine dk 0 ?_; refine OW.step (gd_none rfl) rfl ?_) | (refine CW.d ?_; first | (refine dk 5 ?_; refine CW.ret ?_)) | refine OW.nil ?_ | refine PK.code_normal ?_ | refine PK.nil_ret ?_ | fail | fail)
  exact ⟨_, ResOK.two rfl rfl, K, rfl, hx⟩
theorem stop_any {h : Heap} {K : Nat} {g : LogS} {O : Nat → Prop} (k : LogAt h K g O) :
    CallsH Try.prog 36 #[.pointer (some ⟨K, 0, none⟩)] h fun _ h' => LogAt h' K { g with leads := 0 } O ∧ FP O h h' := by
  obtain ⟨L, ev, hL, hc, ho, hb⟩ := k.ok
  have hlen := hc.len
  have h4 : 4 < L.length := by omega
  refine CallsH.of (l := [_]) Try.func36 rfl Try.ntmps36 Try.results36 rfl ?_
  repeat' (first | (refine St.d ?_; first | (refine dk 0 ?_; refine St.move rfl ?_) | (refine dk 4 ?_; first | refine St.fieldAddr0 pg rfl rfl rfl rfl ?_ | refine St.fieldAddr pg rfl rfl rfl rfl ?_ | fail) | (refine dk 5 ?_; refine St.nilCheck rfl ?_) | (refine dk 3 ?_; first | (refine St.store pg rfl rfl rfl rfl rfl (by (repeat (first | assumption | exact New.blk (by assumption) | exact Upd.blk (by assumption) | (apply New.old; assumption) | (apply Upd.keep; assumption; (focus (first | assumption | exact Ne.symm (by assumption) | omega | (intro hne; simp only at hne; omega)))) | (apply Stp.blk0; assumption) | (apply Stp.blk1; assumption; (focus (first | assumption | exact Ne.symm (by assumption) | omega | (intro hne; simp only at hne; omega))))))) (by (first | exact SetL.set (by assumption) | (repeat (first | exact SetL.z | apply SetL.s)))) rfl ?_; intro _ _ _) | (refine St.storeS pg rfl rfl rfl rfl (by simp) (by first | (simp [Value.oneCell', *]; done) | (intro u hu; simp only [List.mem_cons, List.not_mem_nil, or_false] at hu; repeat' (first | (rcases hu with rfl | hu; first | rfl | assumption) | (subst hu; first | rfl | assumption)))) (by (repeat (first | assumption | exact New.blk (by assumption) | exact Upd.blk (by assumption) | (apply New.old; assumption) | (apply Upd.keep; assumption; (focus (first | assumption | exact Ne.symm (by assumption) | omega | (intro hne; simp only at hne; omega)))) | (apply Stp.blk0; assumption) | (apply Stp.blk1; assumption; (focus (first | assumption | exact Ne.symm (by assumption) | omega | (intro hne; simp only at hne; omega))))))) (by (repeat (first | exact SetR.z | (apply SetR.c; (focus (first | exact SetL.set (by assumption) | (repeat (first | exact SetL.z | apply SetL.s)))))))) rfl ?_; intro _ _ _) | fail)) | (refine OW.d ?_; refine dk 0 ?_; refine OW.step (gd_none rfl) rfl ?_) | (refine CW.d ?_; first | (refine dk 1 ?_; refine CW.region ?_)) | refine OW.nil ?_ | refine PK.nil_normal ?_ | fail | fail)
  rename_i h1 hu z1
  exact ⟨_, ResOK.zero, k.upd ho hb hu (hc.setL 0) rfl ⟨k.inv.n5, k.inv.i, k.inv.val, k.inv.cm, by simp, by simp⟩, .ofStp hu.stp (by simp; exact k.self)⟩

set_option maxHeartbeats 1000000 in
theorem add_any {h : Heap} {K : Nat} {g : LogS} {O : Nat → Prop} (k : LogAt h K g O) {w : Value} {e : Ent} (hw : CkV h w e.vot) (hg : e.rg) (hvl : e.vot.length ≤ 5) (hl : g.ents.length < 1024) (hok : LogOK { g with ents := g.ents ++ [e] }) :
    CallsH Try.prog 32 #[.pointer (some ⟨K, 0, none⟩), .agg (entV e w).toArray] h fun r h' => r = .int .i64 (g.ents.length + 1) ∧ LogAt h' K { g with ents := g.ents ++ [e] } (Ou O h h') ∧ FP O h h' := by
  obtain ⟨L, ev, hL, hc, ho, hb⟩ := k.ok
  have hlen := hc.len
  have c2 := hL.cel hc.e
  have hKl := k.old K k.self
  obtain ⟨p, cap, rfl⟩ := ho.shape
  obtain ⟨q, qc, rfl⟩ := hw.s.sl.shape
  refine CallsH.of (l := [_, _]) Try.func32 rfl Try.ntmps32 Try.results32 rfl ?_
  simp only [entV]
  repeat' (first | (refine St.d ?_; first | (refine dk 0 ?_; refine St.move rfl ?_) | (refine dk 4 ?_; first | refine St.fieldAddr0 pg rfl rfl rfl rfl ?_ | refine St.fieldAddr pg rfl rfl rfl rfl ?_ | fail) | (refine dk 2 ?_; first | refine St.load pg rfl rfl rfl (by (first | assumption | exact Blk.cel (by (repeat (first | assumption | exact New.blk (by assumption) | exact Upd.blk (by assumption) | (apply New.old; assumption) | (apply Upd.keep; assumption; (focus (first | assumption | exact Ne.symm (by assumption) | omega | (intro hne; simp only at hne; omega)))) | (apply Stp.blk0; assumption) | (apply Stp.blk1; assumption; (focus (first | assumption | exact Ne.symm (by assumption) | omega | (intro hne; simp only at hne; omega))))))) (by rfl) | exact Cels.fld (by assumption) (by rfl) | exact Cels.fld0 (by assumption) (by rfl) | (repeat (first | assumption | (apply New.oldc; assumption) | (apply Upd.keepc; assumption; (focus (first | assumption | exact Ne.symm (by assumption) | omega | (intro hne; simp only at hne; omega)))) | (apply Stp.cel0; assumption))))) (by first | exact List.not_mem_nil | assumption) rfl ?_ | refine St.loadS pg rfl rfl rfl (by first | assumption | exact Blk.cels0 (by (repeat (first | assumption | exact New.blk (by assumption) | exact Upd.blk (by assumption) | (apply New.old; assumption) | (apply Upd.keep; assumption; (focus (first | assumption | exact Ne.symm (by assumption) | omega | (intro hne; simp only at hne; omega)))) | (apply Stp.blk0; assumption) | (apply Stp.blk1; assumption; (focus (first | assumption | exact Ne.symm (by assumption) | omega | (intro hne; simp only at hne; omega))))))) | (repeat (first | assumption | (apply Cels.newc; assumption) | (apply Cels.stpc; assumption) | (apply Cels.updc; assumption; (focus (first | assumption | exact Ne.symm (by assumption) | omega | (intro hne; simp only at hne; omega))))))) (by first | exact List.not_mem_nil | assumption) rfl rfl ?_ | fail) | (refine dk 1 ?_; refine St.assign rfl ?_) | (refine dk 5 ?_; refine St.nilCheck rfl ?_) | (refine dk 23 ?_; first | refine St.call pg rfl rfl rfl ?_ | refine St.call0 pg rfl rfl rfl ?_ | refine St.callX pg rfl rfl rfl ?_ | fail) | (refine dk 31 ?_; refine St.box rfl rfl rfl ?_; intro _ _ _ _ _) | (refine dk 29 ?_; refine St.buildSlice pg rfl rfl rfl rfl rfl rfl rfl (by (repeat (first | exact Fill.nil | (apply Fill.one; rfl; rfl; (focus (first | exact SetL.set (by assumption) | (repeat (first | exact SetL.z | apply SetL.s))))) | (apply Fill.agg; rfl; rfl; (focus (repeat (first | exact SetR.z | (apply SetR.c; (focus (first | exact SetL.set (by assumption) | (repeat (first | exact SetL.z | apply SetL.s)))))))))))) rfl ?_; intro _ _ _ _ _)) | (refine OW.d ?_; refine dk 0 ?_; refine OW.step (gd_none rfl) rfl ?_) | (refine CW.d ?_; first | (refine dk 0 ?_; refine CW.seq ?_) | (refine dk 1 ?_; refine CW.region ?_)) | refine OW.nil ?_ | refine PK.code_normal ?_ | refine RW.step rfl (gd_none rfl) rfl ?_ | (refine CW.d ?_; refine dk 2 ?_; refine CW.region_draw [] ord32 pg.mix (by kernel_rfl) (by kernel_rfl) ?_) | fail)
  rename_i E h1 hn1 eE z1 nb h2 hn2 eb z2
  have hB : Blk h2 nb 39 (entV e (.slice q e.vot.length qc)) := hn2.blk
  have s2 : Stp [] h h2 := hn1.stp.trans hn2.stp
  have hL2 := s2.blk0 hL
  clear hn1 hn2
  have hz2 := s2.size
  refine (clone_ents (F := fun _ => True) (l := [e]) (sliceR_one hB (entRm (hw.grow s2) (fun _ _ => trivial) hg) trivial) (by simp) (by simp; omega)).mono ?_
  rintro cv h3 ⟨hcv, s3, hcn⟩
  have hclt := hcv.blk
  have hz3 := s3.size
  have hL3 := s3.blk0 hL2
  have s03 := s2.trans s3
  have ho3 := ho.grow s03
  have hcr := hcv.slR (by simp)
  obtain ⟨cp, ccap, rfl⟩ := hcv.shape
  refine ⟨s3, ?_⟩
  have c23 := hL3.cel hc.e
  repeat' (first | fail | (refine OW.d ?_; refine dk 0 ?_; refine OW.step (gd_none rfl) rfl ?_) | fail | refine RW.step rfl (gd_none rfl) rfl ?_ | (refine CW.d ?_; refine dk 2 ?_; refine CW.region_draw [] ord32 pg.mix (by kernel_rfl) (by kernel_rfl) ?_) | fail)
  refine St.d ?_
  refine dk 25 ?_
  refine St.appendR (r := Rp.ent) pg rfl rfl rfl rfl rfl rfl rfl ho3 hcr (fun b hb1 hf => ?_) ?_ ?_ rfl ?_
  · have := k.old b (hb b hb1).1
    rcases hf with hf | hf
    · omega
    · have := hcn b hf; omega
  · show (_ + _) * 64 ≤ _
    simp; omega
  · simp; omega
  intro av h4 s4 hav hab
  have hz4 := s4.size
  have hL4 := s4.blk hL3 (fun hm => (hb K hm).2 rfl)
  have h2l : 2 < L.length := by omega
  have halt := hav.blk
  obtain ⟨pa, capa, rfl⟩ := hav.shape
  repeat' (first | (refine St.d ?_; first | (refine dk 0 ?_; refine St.move rfl ?_) | (refine dk 4 ?_; first | refine St.fieldAddr0 pg rfl rfl rfl rfl ?_ | refine St.fieldAddr pg rfl rfl rfl rfl ?_ | fail) | (refine dk 5 ?_; refine St.nilCheck rfl ?_) | (refine dk 3 ?_; first | (refine St.store pg rfl rfl rfl rfl rfl (by (repeat (first | assumption | exact New.blk (by assumption) | exact Upd.blk (by assumption) | (apply New.old; assumption) | (apply Upd.keep; assumption; (focus (first | assumption | exact Ne.symm (by assumption) | omega | (intro hne; simp only at hne; omega)))) | (apply Stp.blk0; assumption) | (apply Stp.blk1; assumption; (focus (first | assumption | exact Ne.symm (by assumption) | omega | (intro hne; simp only at hne; omega))))))) (by (first | exact SetL.set (by assumption) | (repeat (first | exact SetL.z | apply SetL.s)))) rfl ?_; intro _ _ _) | (refine St.storeS pg rfl rfl rfl rfl (by simp) (by first | (simp [Value.oneCell', *]; done) | (intro u hu; simp only [List.mem_cons, List.not_mem_nil, or_false] at hu; repeat' (first | (rcases hu with rfl | hu; first | rfl | assumption) | (subst hu; first | rfl | assumption)))) (by (repeat (first | assumption | exact New.blk (by assumption) | exact Upd.blk (by assumption) | (apply New.old; assumption) | (apply Upd.keep; assumption; (focus (first | assumption | exact Ne.symm (by assumption) | omega | (intro hne; simp only at hne; omega)))) | (apply Stp.blk0; assumption) | (apply Stp.blk1; assumption; (focus (first | assumption | exact Ne.symm (by assumption) | omega | (intro hne; simp only at hne; omega))))))) (by (repeat (first | exact SetR.z | (apply SetR.c; (focus (first | exact SetL.set (by assumption) | (repeat (first | exact SetL.z | apply SetL.s)))))))) rfl ?_; intro _ _ _) | fail)) | (refine OW.d ?_; refine dk 0 ?_; refine OW.step (gd_none rfl) rfl ?_) | (refine CW.d ?_; first | (refine dk 0 ?_; refine CW.seq ?_) | (refine dk 1 ?_; refine CW.region ?_)) | refine PK.code_normal ?_ | refine RW.done ?_ | refine RW.step rfl (gd_none rfl) rfl ?_ | (refine CW.d ?_; refine dk 2 ?_; refine CW.region_draw [] ord32 pg.mix (by kernel_rfl) (by kernel_rfl) ?_) | fail)
  rename_i h5 hu5 z5
  have hbl : ∀ b ∈ blkOf (.slice pa (g.ents ++ [e]).length capa), (O b ∧ b ≠ K ∧ b < h.size) ∨ (h.size ≤ b ∧ b < h5.size) := fun b hm => by
    have h9 := halt b hm
    rcases hab with h8 | h8
    · rw [h8] at hm
      have := hb b hm
      exact .inl ⟨this.1, this.2, k.old b this.1⟩
    · have := h8 b hm
      exact .inr ⟨by omega, by omega⟩
  have hL5 := hc.setE (.slice pa (g.ents ++ [e]).length capa) (g.ents ++ [e])
  have hown : OwnE h5 (fun b => Ou O h h5 b ∧ b ≠ K ∧ b ∉ blkOf (.slice pa (g.ents ++ [e]).length capa)) (.slice pa (g.ents ++ [e]).length capa) (g.ents ++ [e]) := by
    have hF : ∀ b, (((O b ∧ b ≠ K ∧ b ∉ blkOf (.slice p g.ents.length cap)) ∨ ((h2.size ≤ b ∧ b < h3.size ∧ b ∉ blkOf (.slice cp (List.length [e]) ccap)) ∨ b ∈ blkOf (.slice cp (List.length [e]) ccap))) ∧ b < h3.size) → Ou O h h5 b ∧ b ≠ K := fun b hbb => by
      rcases hbb.1 with h9 | h9 | h9
      · exact ⟨.inl h9.1, h9.2.1⟩
      · exact ⟨.inr ⟨by omega, by omega⟩, by omega⟩
      · have := hcn b h9
        exact ⟨.inr ⟨by omega, by omega⟩, by omega⟩
    refine OwnR.stp hu5.stp (fun b hbb => by simpa using hbb.2.1) (fun b hm => ?_) (OwnR.mono (fun b hbb => ⟨(hF b hbb).1, (hF b hbb).2, fun hm => hav.apart b hm hbb⟩) (fun b hm hf => hf.2.2 hm) hav)
    rcases hbl b hm with h9 | h9
    · simpa using h9.2.1
    · simp; omega
  have c25 := hu5.blk.cel hL5.e
  repeat' (first | (refine St.d ?_; first | (refine dk 2 ?_; first | refine St.load pg rfl rfl rfl (by (first | assumption | exact Blk.cel (by (repeat (first | assumption | exact New.blk (by assumption) | exact Upd.blk (by assumption) | (apply New.old; assumption) | (apply Upd.keep; assumption; (focus (first | assumption | exact Ne.symm (by assumption) | omega | (intro hne; simp only at hne; omega)))) | (apply Stp.blk0; assumption) | (apply Stp.blk1; assumption; (focus (first | assumption | exact Ne.symm (by assumption) | omega | (intro hne; simp only at hne; omega))))))) (by rfl) | exact Cels.fld (by assumption) (by rfl) | exact Cels.fld0 (by assumption) (by rfl) | (repeat (first | assumption | (apply New.oldc; assumption) | (apply Upd.keepc; assumption; (focus (first | assumption | exact Ne.symm (by assumption) | omega | (intro hne; simp only at hne; omega)))) | (apply Stp.cel0; assumption))))) (by first | exact List.not_mem_nil | assumption) rfl ?_ | refine St.loadS pg rfl rfl rfl (by first | assumption | exact Blk.cels0 (by (repeat (first | assumption | exact New.blk (by assumption) | exact Upd.blk (by assumption) | (apply New.old; assumption) | (apply Upd.keep; assumption; (focus (first | assumption | exact Ne.symm (by assumption) | omega | (intro hne; simp only at hne; omega)))) | (apply Stp.blk0; assumption) | (apply Stp.blk1; assumption; (focus (first | assumption | exact Ne.symm (by assumption) | omega | (intro hne; simp only at hne; omega))))))) | (repeat (first | assumption | (apply Cels.newc; assumption) | (apply Cels.stpc; assumption) | (apply Cels.updc; assumption; (focus (first | assumption | exact Ne.symm (by assumption) | omega | (intro hne; simp only at hne; omega))))))) (by first | exact List.not_mem_nil | assumption) rfl rfl ?_ | fail) | (refine dk 1 ?_; refine St.assign rfl ?_) | (refine dk 11 ?_; refine St.len pg rfl rfl rfl ?_)) | (refine OW.d ?_; refine dk 0 ?_; refine OW.step (gd_none rfl) rfl ?_) | (refine CW.d ?_; first | (refine dk 5 ?_; refine CW.ret ?_)) | refine OW.nil ?_ | refine PK.code_normal ?_ | refine PK.nil_ret ?_ | refine RW.step rfl (gd_none rfl) rfl ?_ | (refine CW.d ?_; refine dk 2 ?_; refine CW.region_draw [] ord32 pg.mix (by kernel_rfl) (by kernel_rfl) ?_) | fail)
  refine ⟨_, ResOK.one rfl, by simp, ⟨⟨_, _, hu5.blk, hL5, hown, fun b hm => ?_⟩, .inl k.self, fun b hbb => ?_, hok⟩, ?_⟩
  · rcases hbl b hm with h9 | h9
    · exact ⟨.inl h9.1, h9.2.1⟩
    · exact ⟨.inr h9, by omega⟩
  · rcases hbb with h9 | h9
    · have := k.old b h9; omega
    · exact h9.2
  · have f4 : FP O h h4 := (FP.grow s03).trans (FP.ofStp s4 (fun b hm => (hb b hm).1)) (fun b hm => .inl hm)
    exact f4.trans (FP.ofStp hu5.stp (O := O) (by simp; exact k.self)) (fun b hm => .inl hm)
end Go.Proofs.Ytdoefbnjehngmaa
