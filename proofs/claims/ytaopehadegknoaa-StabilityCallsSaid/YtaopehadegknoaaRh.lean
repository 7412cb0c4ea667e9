/- Contracts of the reference of stability: New, Learn, Take, Stable, Behind; conditions: the lists lie in the heap. -/
import Derived.Test.YtaopehadegknoaaRg
namespace Go.Proofs.Ytaopehadegknoaa
open Go Go.CF
set_option maxRecDepth 20000

theorem rnew_bad {h : Heap} {n : Int} (hn : ¬ (1 ≤ n ∧ n ≤ 5)) : CallsH Try.prog 29 #[.int .i64 n] h fun r h' => r = .tuple #[.slice none 0 0, .int .i64 1] ∧ h' = h := by
  refine CallsH.of (l := [_]) Try.func29 rfl Try.ntmps29 Try.results29 rfl ?_
  repeat' (first | (refine St.d ?_; first | (refine dk 0 ?_; refine St.move rfl ?_) | (refine dk 1 ?_; refine St.assign rfl ?_) | (refine dk 6 ?_; first | refine St.pick_true rfl (by (first | rfl | assumption | exact decide_eq_true (by first | assumption | omega) | exact decide_eq_false (by first | assumption | exact not_not_intro (by assumption) | omega) | fail)) rfl ?_ | refine St.pick_false rfl (by (first | rfl | assumption | exact decide_eq_true (by first | assumption | omega) | exact decide_eq_false (by first | assumption | exact not_not_intro (by assumption) | omega) | fail)) rfl ?_ | fail) | (refine dk 14 ?_; refine St.lss rfl rfl ?_) | (refine dk 16 ?_; refine St.gtr rfl rfl ?_)) | (refine OW.d ?_; first | (refine dk 0 ?_; refine OW.step (gd_none rfl) rfl ?_) | (refine dk 1 ?_; first | refine OW.step (gd_yes rfl rfl rfl (by (first | rfl | assumption | exact decide_eq_true (by first | assumption | omega) | exact decide_eq_false (by first | assumption | exact not_not_intro (by assumption) | omega) | fail))) rfl ?_ | refine OW.pass (gd_no rfl rfl rfl (by (first | rfl | assumption | exact decide_eq_true (by first | assumption | omega) | exact decide_eq_false (by first | assumption | exact not_not_intro (by assumption) | omega) | fail))) rfl ?_ | refine OW.pass (gd_undef rfl rfl rfl) rfl ?_ | (refine OW.split_dnot rfl rfl rfl ?_ ?_ <;> intro _ <;> try (exfalso; omega)) | (refine OW.split_dec rfl rfl rfl ?_ ?_ <;> intro _ <;> try (exfalso; omega)) | (refine OW.split rfl rfl rfl ?_ ?_ <;> intro _) | fail)) | (refine CW.d ?_; first | (refine dk 0 ?_; refine CW.seq ?_) | (refine dk 1 ?_; refine CW.region ?_) | (refine dk 3 ?_; first | refine CW.cond_true rfl (by (first | rfl | assumption | exact decide_eq_true (by first | assumption | omega) | exact decide_eq_false (by first | assumption | exact not_not_intro (by assumption) | omega) | fail)) ?_ | refine CW.cond_false rfl (by (first | rfl | assumption | exact decide_eq_true (by first | assumption | omega) | exact decide_eq_false (by first | assumption | exact not_not_intro (by assumption) | omega) | fail)) ?_ | (refine CW.cond_dnot rfl ?_ ?_ <;> intro _ <;> try (exfalso; omega)) | (refine CW.cond_dec rfl ?_ ?_ <;> intro _ <;> try (exfalso; omega)) | (refine CW.cond rfl ?_ ?_ <;> intro _) | fail) | (refine dk 5 ?_; refine CW.ret ?_)) | refine OW.nil ?_ | refine PK.code_normal ?_ | refine PK.code_ret ?_ | refine PK.nil_ret ?_ | fail | fail)
  all_goals first | exact ⟨_, ResOK.two rfl rfl, rfl, rfl⟩ | (exfalso; omega)

set_option maxHeartbeats 1000000 in
theorem rnew_any {h : Heap} {n : Nat} (hn5 : 1 ≤ n ∧ n ≤ 5) :
    CallsH Try.prog 29 #[.int .i64 n] h fun r h' => ∃ rv, r = .tuple #[rv, .int .i64 0] ∧ clks.R h' (fun b => h.size ≤ b) [rv] (List.replicate n (List.replicate n 0)) ∧ Stp [] h h' := by
  refine CallsH.of (l := [_]) Try.func29 rfl Try.ntmps29 Try.results29 rfl ?_
  repeat' (first | (refine St.d ?_; first | (refine dk 0 ?_; refine St.move rfl ?_) | (refine dk 1 ?_; refine St.assign rfl ?_) | (refine dk 6 ?_; first | refine St.pick_true rfl (by (first | rfl | assumption | exact decide_eq_true (by first | assumption | omega) | exact decide_eq_false (by first | assumption | exact not_not_intro (by assumption) | omega) | fail)) rfl ?_ | refine St.pick_false rfl (by (first | rfl | assumption | exact decide_eq_true (by first | assumption | omega) | exact decide_eq_false (by first | assumption | exact not_not_intro (by assumption) | omega) | fail)) rfl ?_ | fail) | (refine dk 14 ?_; refine St.lss rfl rfl ?_) | (refine dk 16 ?_; refine St.gtr rfl rfl ?_) | (refine dk 29 ?_; refine St.buildSlice pg rfl rfl rfl rfl rfl rfl rfl (by (repeat (first | exact Fill.nil | (apply Fill.one; rfl; rfl; (focus (first | exact SetL.set (by assumption) | (repeat (first | exact SetL.z | apply SetL.s))))) | (apply Fill.agg; rfl; rfl; (focus (repeat (first | exact SetR.z | (apply SetR.c; (focus (first | exact SetL.set (by assumption) | (repeat (first | exact SetL.z | apply SetL.s)))))))))))) rfl ?_; intro _ _ _ _ _)) | (refine OW.d ?_; first | (refine dk 0 ?_; refine OW.step (gd_none rfl) rfl ?_) | (refine dk 1 ?_; first | refine OW.step (gd_yes rfl rfl rfl (by (first | rfl | assumption | exact decide_eq_true (by first | assumption | omega) | exact decide_eq_false (by first | assumption | exact not_not_intro (by assumption) | omega) | fail))) rfl ?_ | refine OW.pass (gd_no rfl rfl rfl (by (first | rfl | assumption | exact decide_eq_true (by first | assumption | omega) | exact decide_eq_false (by first | assumption | exact not_not_intro (by assumption) | omega) | fail))) rfl ?_ | refine OW.pass (gd_undef rfl rfl rfl) rfl ?_ | (refine OW.split_dnot rfl rfl rfl ?_ ?_ <;> intro _ <;> try (exfalso; omega)) | (refine OW.split_dec rfl rfl rfl ?_ ?_ <;> intro _ <;> try (exfalso; omega)) | (refine OW.split rfl rfl rfl ?_ ?_ <;> intro _) | fail)) | (refine CW.d ?_; first | (refine dk 0 ?_; refine CW.seq ?_) | (refine dk 1 ?_; refine CW.region ?_) | (refine dk 3 ?_; first | refine CW.cond_true rfl (by (first | rfl | assumption | exact decide_eq_true (by first | assumption | omega) | exact decide_eq_false (by first | assumption | exact not_not_intro (by assumption) | omega) | fail)) ?_ | refine CW.cond_false rfl (by (first | rfl | assumption | exact decide_eq_true (by first | assumption | omega) | exact decide_eq_false (by first | assumption | exact not_not_intro (by assumption) | omega) | fail)) ?_ | (refine CW.cond_dnot rfl ?_ ?_ <;> intro _ <;> try (exfalso; omega)) | (refine CW.cond_dec rfl ?_ ?_ <;> intro _ <;> try (exfalso; omega)) | (refine CW.cond rfl ?_ ?_ <;> intro _) | fail) | (refine dk 4 ?_; refine CW.skip ?_) | (refine dk 7 ?_; refine CW.block ?_)) | refine OW.nil ?_ | refine PK.code_normal ?_ | fail | fail)
  rename_i eb h0 hn0 e0 z0
  refine CW.loop (fun x : Nat × Value => [(0, .int .i64 n), (4, x.2), (5, .int .i64 x.1)])
    (fun x h1 => x.1 ≤ n ∧ Stp [] h h1 ∧ (∀ b ∈ blkOf x.2, h.size ≤ b) ∧ ∃ vs : List Value, vs.length = x.1 ∧ Own h1 x.2 26 1 x.1 vs ∧ ∀ w ∈ vs, CkV h1 w (List.replicate n 0) ∧ ∀ b ∈ rdOf w, h.size ≤ b ∧ b ∉ blkOf x.2)
    (fun x => n - x.1) (0, .slice (some ⟨eb, 0, none⟩) 0 0) (by (repeat (first | exact trivial | refine ⟨rfl, ?_⟩))) ⟨Nat.zero_le _, hn0.stp, by simp [blkOf]; omega, [], rfl, ⟨(Nat.zero_mul _).symm, .inr ⟨eb, 0, 0, _, rfl, hn0.blk, by rw [Nat.zero_mul]; exact Nat.zero_le _, Nat.le_refl _, by rw [Nat.zero_mul, List.take_zero]⟩⟩, by simp⟩ ?_
  rintro ⟨j, ov⟩ h1 ⟨hj, hst1, hnew, vs, hvl, ho, hall⟩
  simp only at hj hnew hvl ho hall
  by_cases hjn : j < n
  · repeat' (first | (refine St.d ?_; first | (refine dk 0 ?_; refine St.move rfl ?_) | (refine dk 23 ?_; first | refine St.call pg rfl rfl rfl ?_ | refine St.call0 pg rfl rfl rfl ?_ | refine St.callX pg rfl rfl rfl ?_ | fail) | (refine dk 14 ?_; refine St.lss rfl rfl ?_)) | (refine OW.d ?_; first | (refine dk 0 ?_; refine OW.step (gd_none rfl) rfl ?_) | (refine dk 1 ?_; first | refine OW.step (gd_yes rfl rfl rfl (by (first | rfl | assumption | exact decide_eq_true (by first | assumption | omega) | exact decide_eq_false (by first | assumption | exact not_not_intro (by assumption) | omega) | fail))) rfl ?_ | refine OW.pass (gd_no rfl rfl rfl (by (first | rfl | assumption | exact decide_eq_true (by first | assumption | omega) | exact decide_eq_false (by first | assumption | exact not_not_intro (by assumption) | omega) | fail))) rfl ?_ | refine OW.pass (gd_undef rfl rfl rfl) rfl ?_ | (refine OW.split_dnot rfl rfl rfl ?_ ?_ <;> intro _ <;> try (exfalso; omega)) | (refine OW.split_dec rfl rfl rfl ?_ ?_ <;> intro _ <;> try (exfalso; omega)) | (refine OW.split rfl rfl rfl ?_ ?_ <;> intro _) | fail)) | (refine CW.d ?_; first | (refine dk 0 ?_; refine CW.seq ?_) | (refine dk 1 ?_; refine CW.region ?_) | (refine dk 3 ?_; first | refine CW.cond_true rfl (by (first | rfl | assumption | exact decide_eq_true (by first | assumption | omega) | exact decide_eq_false (by first | assumption | exact not_not_intro (by assumption) | omega) | fail)) ?_ | refine CW.cond_false rfl (by (first | rfl | assumption | exact decide_eq_true (by first | assumption | omega) | exact decide_eq_false (by first | assumption | exact not_not_intro (by assumption) | omega) | fail)) ?_ | (refine CW.cond_dnot rfl ?_ ?_ <;> intro _ <;> try (exfalso; omega)) | (refine CW.cond_dec rfl ?_ ?_ <;> intro _ <;> try (exfalso; omega)) | (refine CW.cond rfl ?_ ?_ <;> intro _) | fail) | (refine dk 4 ?_; refine CW.skip ?_) | (refine dk 7 ?_; refine CW.block ?_)) | refine OW.nil ?_ | refine PK.code_normal ?_ | fail | fail)
    refine (rzero_any hn5).mono ?_
    rintro cv h2 ⟨hcv, hst2, hcn⟩
    obtain ⟨p2, cap2, rfl⟩ := hcv.sl.shape
    repeat' (first | (refine St.d ?_; first | (refine dk 29 ?_; refine St.buildSlice pg rfl rfl rfl rfl rfl rfl rfl (by (repeat (first | exact Fill.nil | (apply Fill.one; rfl; rfl; (focus (first | exact SetL.set (by assumption) | (repeat (first | exact SetL.z | apply SetL.s))))) | (apply Fill.agg; rfl; rfl; (focus (repeat (first | exact SetR.z | (apply SetR.c; (focus (first | exact SetL.set (by assumption) | (repeat (first | exact SetL.z | apply SetL.s)))))))))))) rfl ?_; intro _ _ _ _ _)) | (refine OW.d ?_; first | (refine dk 0 ?_; refine OW.step (gd_none rfl) rfl ?_) | (refine dk 1 ?_; first | refine OW.step (gd_yes rfl rfl rfl (by (first | rfl | assumption | exact decide_eq_true (by first | assumption | omega) | exact decide_eq_false (by first | assumption | exact not_not_intro (by assumption) | omega) | fail))) rfl ?_ | refine OW.pass (gd_no rfl rfl rfl (by (first | rfl | assumption | exact decide_eq_true (by first | assumption | omega) | exact decide_eq_false (by first | assumption | exact not_not_intro (by assumption) | omega) | fail))) rfl ?_ | refine OW.pass (gd_undef rfl rfl rfl) rfl ?_ | (refine OW.split_dnot rfl rfl rfl ?_ ?_ <;> intro _ <;> try (exfalso; omega)) | (refine OW.split_dec rfl rfl rfl ?_ ?_ <;> intro _ <;> try (exfalso; omega)) | (refine OW.split rfl rfl rfl ?_ ?_ <;> intro _) | fail)) | fail | fail | fail)
    rename_i nb h3 hn3 enb z3
    have hst3 : Stp [] h1 h3 := hst2.trans hn3.stp
    have hz1 := hst1.size
    have hz2 := hst2.size
    have hcv2 : CkV h2 (.slice p2 n cap2) (List.replicate n 0) := .ofVld ⟨by rw [List.length_replicate]; exact hcv.sl⟩ (zeros_vln hn5).1
    refine St.d ?_
    refine dk 25 ?_
    refine St.append pg rfl rfl rfl rfl rfl rfl (ho.stp hst3 (by simp)) (Sl.ofBlk (l := [.slice p2 n cap2]) hn3.blk) (m := 1) rfl (by simp [Value.oneCell']) ?_ ?_ rfl ?_
    · show (_ + 1) * 24 ≤ _
      omega
    · omega
    intro ov2 h4 happ
    have hovl := ho.lt
    have hst4 : Stp [] h h4 := Stp.stp happ.stp (hst1.trans hst3) (fun b hb => .inr (hnew b hb))
    have hcb : ∀ b ∈ rdOf (.slice p2 n cap2), h1.size ≤ b ∧ b < h2.size := fun b hb => ⟨hcn b (rdOf_blk hb), hcv2.s.sl.lt b hb⟩
    have hb2 : ∀ b, b ∈ blkOf ov2 → b ∈ blkOf ov ∨ h3.size ≤ b := fun b hb => by
      rcases happ.blk with h8 | h8
      · exact .inl (h8 ▸ hb)
      · exact .inr (h8 b hb)
    repeat' (first | (refine St.d ?_; first | (refine dk 0 ?_; refine St.move rfl ?_) | (refine dk 1 ?_; refine St.assign rfl ?_) | (refine dk 18 ?_; refine St.add rfl rfl (by omega) ?_)) | (refine OW.d ?_; first | (refine dk 0 ?_; refine OW.step (gd_none rfl) rfl ?_) | (refine dk 1 ?_; first | refine OW.step (gd_yes rfl rfl rfl (by (first | rfl | assumption | exact decide_eq_true (by first | assumption | omega) | exact decide_eq_false (by first | assumption | exact not_not_intro (by assumption) | omega) | fail))) rfl ?_ | refine OW.pass (gd_no rfl rfl rfl (by (first | rfl | assumption | exact decide_eq_true (by first | assumption | omega) | exact decide_eq_false (by first | assumption | exact not_not_intro (by assumption) | omega) | fail))) rfl ?_ | refine OW.pass (gd_undef rfl rfl rfl) rfl ?_ | (refine OW.split_dnot rfl rfl rfl ?_ ?_ <;> intro _ <;> try (exfalso; omega)) | (refine OW.split_dec rfl rfl rfl ?_ ?_ <;> intro _ <;> try (exfalso; omega)) | (refine OW.split rfl rfl rfl ?_ ?_ <;> intro _) | fail)) | (refine CW.d ?_; first | (refine dk 1 ?_; refine CW.region ?_)) | refine OW.nil ?_ | refine PK.code_normal ?_ | refine PK.blk_normal ?_ | refine PK.lp_normal ?_ | fail | fail)
    refine ⟨(j + 1, ov2), by (repeat (first | exact trivial | refine ⟨rfl, ?_⟩)), ⟨hjn, hst4, fun b hb => ?_, vs ++ [Value.slice p2 n cap2], by simp [hvl], happ.own, fun w hw => ?_⟩, by simp only; omega⟩
    · rcases hb2 b hb with h9 | h9
      · exact hnew b h9
      · omega
    · rcases List.mem_append.1 hw with hw | hw
      · obtain ⟨h5, h6⟩ := hall w hw
        have h7 := h5.s.sl.lt
        refine ⟨(h5.grow hst3).stp happ.stp (fun b hb => (h6 b hb).2), fun b hb => ⟨(h6 b hb).1, fun hm => ?_⟩⟩
        rcases hb2 b hm with h9 | h9
        · exact (h6 b hb).2 h9
        · have := h7 b hb
          have := hst3.size
          omega
      · simp only [List.mem_singleton] at hw
        subst hw
        have hcv3 := hcv2.grow (hn3.stp (fp := []))
        refine ⟨hcv3.stp happ.stp (fun b hb hm => ?_), fun b hb => ⟨by have := (hcb b hb).1; omega, fun hm => ?_⟩⟩
        · have h8 := (hcb b hb).1
          have h9 := hovl b hm
          omega
        · rcases hb2 b hm with h9 | h9
          · have h8 := (hcb b hb).1
            have h10 := hovl b h9
            omega
          · have := (hcb b hb).2
            omega
  · have : j = n := by omega
    subst this
    repeat' (first | (refine St.d ?_; first | (refine dk 0 ?_; refine St.move rfl ?_) | (refine dk 1 ?_; refine St.assign rfl ?_) | (refine dk 14 ?_; refine St.lss rfl rfl ?_)) | (refine OW.d ?_; first | (refine dk 0 ?_; refine OW.step (gd_none rfl) rfl ?_) | (refine dk 1 ?_; first | refine OW.step (gd_yes rfl rfl rfl (by (first | rfl | assumption | exact decide_eq_true (by first | assumption | omega) | exact decide_eq_false (by first | assumption | exact not_not_intro (by assumption) | omega) | fail))) rfl ?_ | refine OW.pass (gd_no rfl rfl rfl (by (first | rfl | assumption | exact decide_eq_true (by first | assumption | omega) | exact decide_eq_false (by first | assumption | exact not_not_intro (by assumption) | omega) | fail))) rfl ?_ | refine OW.pass (gd_undef rfl rfl rfl) rfl ?_ | (refine OW.split_dnot rfl rfl rfl ?_ ?_ <;> intro _ <;> try (exfalso; omega)) | (refine OW.split_dec rfl rfl rfl ?_ ?_ <;> intro _ <;> try (exfalso; omega)) | (refine OW.split rfl rfl rfl ?_ ?_ <;> intro _) | fail)) | (refine CW.d ?_; first | (refine dk 0 ?_; refine CW.seq ?_) | (refine dk 1 ?_; refine CW.region ?_) | (refine dk 3 ?_; first | refine CW.cond_true rfl (by (first | rfl | assumption | exact decide_eq_true (by first | assumption | omega) | exact decide_eq_false (by first | assumption | exact not_not_intro (by assumption) | omega) | fail)) ?_ | refine CW.cond_false rfl (by (first | rfl | assumption | exact decide_eq_true (by first | assumption | omega) | exact decide_eq_false (by first | assumption | exact not_not_intro (by assumption) | omega) | fail)) ?_ | (refine CW.cond_dnot rfl ?_ ?_ <;> intro _ <;> try (exfalso; omega)) | (refine CW.cond_dec rfl ?_ ?_ <;> intro _ <;> try (exfalso; omega)) | (refine CW.cond rfl ?_ ?_ <;> intro _) | fail) | (refine dk 5 ?_; refine CW.ret ?_) | (refine dk 6 ?_; refine CW.exit ?_)) | refine OW.nil ?_ | refine PK.code_normal ?_ | refine PK.code_exit ?_ | refine PK.lp_exit ?_ | refine PK.blk_exit ?_ | refine PK.nil_ret ?_ | fail | fail)
    refine ⟨_, ResOK.two rfl rfl, _, rfl, clks_ofF (by rw [List.length_replicate]; exact ho.sl) (fun b hb => hnew b (rdOf_blk hb)) (by simp [hvl]) (by simp; omega) (fun i c w hc hw => ?_), hst1⟩
    rw [List.getElem?_replicate] at hc
    split at hc
    · cases hc
      have h5 := hall w (List.mem_of_getElem? hw)
      exact ⟨h5.1, fun b hb => (h5.2 b hb).1⟩
    · cases hc

theorem rstable_any {h : Heap} {F : Nat → Prop} {v : Value} {A : List (List Int)} {n : Nat} (hs : clks.R h F [v] A) (hn : 1 ≤ n) (hA : Mat n A) :
    CallsH Try.prog 40 #[v] h fun r h' => Own h' r 3 1 n (intsV (foldC min A)) ∧ Stp [] h h' := by
  obtain ⟨p, cap, he⟩ := sliceR_shape hs
  simp only [List.cons.injEq, and_true] at he
  subst he
  refine CallsH.of (l := [_]) Try.func40 rfl Try.ntmps40 Try.results40 rfl ?_
  repeat' (first | (refine St.d ?_; first | (refine dk 0 ?_; refine St.move rfl ?_) | (refine dk 1 ?_; refine St.assign rfl ?_) | (refine dk 23 ?_; first | refine St.call pg rfl rfl rfl ?_ | refine St.call0 pg rfl rfl rfl ?_ | refine St.callX pg rfl rfl rfl ?_ | fail)) | (refine OW.d ?_; refine dk 0 ?_; refine OW.step (gd_none rfl) rfl ?_) | (refine CW.d ?_; first | (refine dk 0 ?_; refine CW.seq ?_) | (refine dk 1 ?_; refine CW.region ?_)) | refine OW.nil ?_ | refine PK.code_normal ?_ | fail | fail)
  refine (rmeet_any hs (mat_alk hn hA).1 (mat_alk hn hA).2).mono ?_
  rintro r h' ⟨h1, h2, _⟩
  repeat' (first | (refine St.d ?_; first | (refine dk 1 ?_; refine St.assign rfl ?_)) | (refine OW.d ?_; refine dk 0 ?_; refine OW.step (gd_none rfl) rfl ?_) | (refine CW.d ?_; first | (refine dk 5 ?_; refine CW.ret ?_)) | refine OW.nil ?_ | refine PK.code_normal ?_ | refine PK.nil_ret ?_ | fail | fail)
  exact ⟨_, ResOK.one rfl, h1, h2⟩
end Go.Proofs.Ytaopehadegknoaa
