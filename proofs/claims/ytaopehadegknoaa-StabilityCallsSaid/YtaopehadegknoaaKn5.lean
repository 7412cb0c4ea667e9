/- Contracts of the reference's Ints and Lists, and of Missing and Behind; conditions: the lists lie in the heap. -/
import Derived.Test.YtaopehadegknoaaKn4
import Derived.Test.YtaopehadegknoaaRd36
namespace Go.Proofs.Ytaopehadegknoaa
open Go Go.CF
set_option maxRecDepth 20000

theorem rints_any {h : Heap} {v1 v2 : Value} {a b : List Int} (h1 : IntS h v1 a) (h2 : IntS h v2 b) (hl : a.length ≤ 9223372036854775807) :
    CallsH Try.prog 72 #[v1, v2] h fun r h' => r = .bool (decide (a = b)) ∧ h' = h := by
  obtain ⟨p1, cap1, rfl⟩ := h1.sl.shape
  obtain ⟨p2, cap2, rfl⟩ := h2.sl.shape
  refine CallsH.of (l := [_, _]) Try.func72 rfl Try.ntmps72 Try.results72 rfl ?_
  repeat' (first | (refine St.d ?_; first | (refine dk 0 ?_; refine St.move rfl ?_) | (refine dk 1 ?_; refine St.assign rfl ?_) | (refine dk 13 ?_; first | refine St.neq rfl rfl ?_ | refine St.neq_pnil pg rfl rfl rfl rfl ?_ | refine St.bneq pg rfl rfl rfl rfl ?_ | fail) | (refine dk 11 ?_; refine St.len pg rfl rfl rfl ?_)) | (refine OW.d ?_; refine dk 0 ?_; refine OW.step (gd_none rfl) rfl ?_) | (refine CW.d ?_; first | (refine dk 0 ?_; refine CW.seq ?_) | (refine dk 1 ?_; refine CW.region ?_) | (refine dk 3 ?_; first | refine CW.cond_true rfl (by (first | rfl | assumption | exact decide_eq_true (by first | assumption | omega) | exact decide_eq_false (by first | assumption | exact not_not_intro (by assumption) | omega) | fail)) ?_ | refine CW.cond_false rfl (by (first | rfl | assumption | exact decide_eq_true (by first | assumption | omega) | exact decide_eq_false (by first | assumption | exact not_not_intro (by assumption) | omega) | fail)) ?_ | (refine CW.cond_dnot rfl ?_ ?_ <;> intro _ <;> try (exfalso; omega)) | (refine CW.cond_dec rfl ?_ ?_ <;> intro _ <;> try (exfalso; omega)) | (refine CW.cond rfl ?_ ?_ <;> intro _) | fail) | (refine dk 4 ?_; refine CW.skip ?_) | (refine dk 5 ?_; refine CW.ret ?_) | (refine dk 7 ?_; refine CW.block ?_)) | refine OW.nil ?_ | refine PK.code_normal ?_ | refine PK.code_ret ?_ | refine PK.nil_ret ?_ | refine RW.step rfl (gd_none rfl) rfl ?_ | fail)
  · rename_i hne
    refine ⟨_, ResOK.one rfl, ?_, rfl⟩
    congr 1
    exact (decide_eq_false (fun e => hne (by rw [e]))).symm
  rename_i hne
  have hab : a.length = b.length := by omega
  refine CW.loop (fun i : Nat => [(0, .slice p1 a.length cap1), (1, .slice p2 b.length cap2), (5, .int .i64 i)]) (fun i h' => h = h' ∧ i ≤ a.length ∧ a.take i = b.take i) (fun i => a.length - i) 0 (by (repeat (first | exact trivial | refine ⟨rfl, ?_⟩))) ⟨rfl, Nat.zero_le _, by simp⟩ ?_
  rintro i _ ⟨rfl, hi, heq⟩
  by_cases hin : i < a.length
  · obtain ⟨x, hx⟩ : ∃ x, a[i]? = some x := ⟨_, List.getElem?_eq_getElem hin⟩
    obtain ⟨y, hy⟩ : ∃ y, b[i]? = some y := ⟨_, List.getElem?_eq_getElem (by omega)⟩
    rcases h1.cases with e | ⟨b1, o1, c1, e1, _, _⟩
    · subst e; simp at hin
    rcases h2.cases with e | ⟨b2, o2, c2, e2, _, _⟩
    · exfalso; rw [e] at hab; simp only [List.length_nil] at hab; omega
    simp only [Value.slice.injEq] at e1 e2
    obtain ⟨rfl, _, rfl⟩ := e1
    obtain ⟨rfl, _, rfl⟩ := e2
    have hcx := h1.cel hx
    have hcy := h2.cel hy
    repeat' (first | (refine St.d ?_; first | (refine dk 0 ?_; refine St.move rfl ?_) | (refine dk 2 ?_; first | refine St.load pg rfl rfl rfl (by (first | assumption | exact Blk.cel (by (repeat (first | assumption | exact New.blk (by assumption) | exact Upd.blk (by assumption) | (apply New.old; assumption) | (apply Upd.keep; assumption; (focus (first | assumption | exact Ne.symm (by assumption) | omega | (intro hne; simp only at hne; omega)))) | (apply Stp.blk0; assumption) | (apply Stp.blk1; assumption; (focus (first | assumption | exact Ne.symm (by assumption) | omega | (intro hne; simp only at hne; omega))))))) (by rfl) | exact Cels.fld (by assumption) (by rfl) | exact Cels.fld0 (by assumption) (by rfl) | (repeat (first | assumption | (apply New.oldc; assumption) | (apply Upd.keepc; assumption; (focus (first | assumption | exact Ne.symm (by assumption) | omega | (intro hne; simp only at hne; omega)))) | (apply Stp.cel0; assumption))))) (by first | exact List.not_mem_nil | assumption) rfl ?_ | refine St.loadS pg rfl rfl rfl (by first | assumption | exact Blk.cels0 (by (repeat (first | assumption | exact New.blk (by assumption) | exact Upd.blk (by assumption) | (apply New.old; assumption) | (apply Upd.keep; assumption; (focus (first | assumption | exact Ne.symm (by assumption) | omega | (intro hne; simp only at hne; omega)))) | (apply Stp.blk0; assumption) | (apply Stp.blk1; assumption; (focus (first | assumption | exact Ne.symm (by assumption) | omega | (intro hne; simp only at hne; omega)))))))) (by first | exact List.not_mem_nil | assumption) rfl rfl ?_ | fail) | (refine dk 1 ?_; refine St.assign rfl ?_) | (refine dk 13 ?_; first | refine St.neq rfl rfl ?_ | refine St.neq_pnil pg rfl rfl rfl rfl ?_ | refine St.bneq pg rfl rfl rfl rfl ?_ | fail) | (refine dk 14 ?_; refine St.lss rfl rfl ?_) | (refine dk 18 ?_; refine St.add rfl rfl (by omega) ?_) | (refine dk 10 ?_; first | refine St.indexAddr1 pg rfl rfl rfl rfl rfl rfl rfl (by first | omega | decide | exact Nat.succ_pos _ | (show 0 < _; omega)) ?_ | refine St.indexAddr pg rfl rfl rfl rfl rfl rfl (by first | omega | decide | exact Nat.succ_pos _ | (show 0 < _; omega)) ?_ | refine St.indexAddrA1 pg rfl rfl rfl rfl rfl rfl rfl (by first | omega | decide) ?_ | fail) | (refine dk 11 ?_; refine St.len pg rfl rfl rfl ?_)) | (refine OW.d ?_; refine dk 0 ?_; refine OW.step (gd_none rfl) rfl ?_) | (refine CW.d ?_; first | (refine dk 0 ?_; refine CW.seq ?_) | (refine dk 1 ?_; refine CW.region ?_) | (refine dk 3 ?_; first | refine CW.cond_true rfl (by (first | rfl | assumption | exact decide_eq_true (by first | assumption | omega) | exact decide_eq_false (by first | assumption | exact not_not_intro (by assumption) | omega) | fail)) ?_ | refine CW.cond_false rfl (by (first | rfl | assumption | exact decide_eq_true (by first | assumption | omega) | exact decide_eq_false (by first | assumption | exact not_not_intro (by assumption) | omega) | fail)) ?_ | (refine CW.cond_dnot rfl ?_ ?_ <;> intro _ <;> try (exfalso; omega)) | (refine CW.cond_dec rfl ?_ ?_ <;> intro _ <;> try (exfalso; omega)) | (refine CW.cond rfl ?_ ?_ <;> intro _) | fail) | (refine dk 4 ?_; refine CW.skip ?_) | (refine dk 5 ?_; refine CW.ret ?_) | (refine dk 7 ?_; refine CW.block ?_)) | refine OW.nil ?_ | refine PK.code_normal ?_ | refine PK.blk_normal ?_ | refine PK.lp_normal ?_ | refine PK.code_ret ?_ | refine PK.blk_ret ?_ | refine PK.lp_ret ?_ | refine PK.nil_ret ?_ | refine RW.done ?_ | refine RW.step rfl (gd_none rfl) rfl ?_ | (refine CW.d ?_; refine dk 2 ?_; refine CW.region_draw [] ord72 pg.mix (by kernel_rfl) (by kernel_rfl) ?_) | fail)
    · rename_i hxy
      refine ⟨_, ResOK.one rfl, ?_, rfl⟩
      congr 1
      refine (decide_eq_false (fun e => hxy ?_)).symm
      subst e
      rw [hx] at hy; cases hy; rfl
    · rename_i hxy
      refine ⟨i + 1, by (repeat (first | exact trivial | refine ⟨rfl, ?_⟩)), ⟨rfl, hin, ?_⟩, by omega⟩
      rw [List.take_add_one, List.take_add_one, hx, hy, heq]
      first
        | (subst hxy; rfl)
        | (have : x = y := by omega
           subst this; rfl)
  · have : i = a.length := by omega
    subst this
    have he : a = b := by
      rw [List.take_length] at heq
      rw [heq, hab, List.take_length]
    repeat' (first | (refine St.d ?_; first | (refine dk 0 ?_; refine St.move rfl ?_) | (refine dk 1 ?_; refine St.assign rfl ?_) | (refine dk 14 ?_; refine St.lss rfl rfl ?_) | (refine dk 11 ?_; refine St.len pg rfl rfl rfl ?_)) | (refine OW.d ?_; refine dk 0 ?_; refine OW.step (gd_none rfl) rfl ?_) | (refine CW.d ?_; first | (refine dk 0 ?_; refine CW.seq ?_) | (refine dk 1 ?_; refine CW.region ?_) | (refine dk 3 ?_; first | refine CW.cond_true rfl (by (first | rfl | assumption | exact decide_eq_true (by first | assumption | omega) | exact decide_eq_false (by first | assumption | exact not_not_intro (by assumption) | omega) | fail)) ?_ | refine CW.cond_false rfl (by (first | rfl | assumption | exact decide_eq_true (by first | assumption | omega) | exact decide_eq_false (by first | assumption | exact not_not_intro (by assumption) | omega) | fail)) ?_ | (refine CW.cond_dnot rfl ?_ ?_ <;> intro _ <;> try (exfalso; omega)) | (refine CW.cond_dec rfl ?_ ?_ <;> intro _ <;> try (exfalso; omega)) | (refine CW.cond rfl ?_ ?_ <;> intro _) | fail) | (refine dk 5 ?_; refine CW.ret ?_) | (refine dk 6 ?_; refine CW.exit ?_)) | refine OW.nil ?_ | refine PK.code_normal ?_ | refine PK.code_exit ?_ | refine PK.lp_exit ?_ | refine PK.blk_exit ?_ | refine PK.nil_ret ?_ | refine RW.step rfl (gd_none rfl) rfl ?_ | fail)
    exact ⟨_, ResOK.one rfl, by rw [decide_eq_true he], rfl⟩

theorem lists_any {h : Heap} {F G : Nat → Prop} {v1 v2 : Value} {a b : List (List Int)} (h1 : clks.R h F [v1] a) (h2 : clks.R h G [v2] b) :
    CallsH Try.prog 36 #[v1, v2] h fun r h' => r = .bool (decide (a = b)) ∧ h' = h := by
  have hl1 := sliceR_len h1
  have hl2 := sliceR_len h2
  obtain ⟨p1, cap1, e1⟩ := sliceR_shape h1
  obtain ⟨p2, cap2, e2⟩ := sliceR_shape h2
  simp only [List.cons.injEq, and_true] at e1 e2
  subst e1
  subst e2
  refine CallsH.of (l := [_, _]) Try.func36 rfl Try.ntmps36 Try.results36 rfl ?_
  repeat' (first | (refine St.d ?_; first | (refine dk 0 ?_; refine St.move rfl ?_) | (refine dk 1 ?_; refine St.assign rfl ?_) | (refine dk 13 ?_; first | refine St.neq rfl rfl ?_ | refine St.neq_pnil pg rfl rfl rfl rfl ?_ | refine St.bneq pg rfl rfl rfl rfl ?_ | fail) | (refine dk 11 ?_; refine St.len pg rfl rfl rfl ?_)) | (refine OW.d ?_; refine dk 0 ?_; refine OW.step (gd_none rfl) rfl ?_) | (refine CW.d ?_; first | (refine dk 0 ?_; refine CW.seq ?_) | (refine dk 1 ?_; refine CW.region ?_) | (refine dk 3 ?_; first | refine CW.cond_true rfl (by (first | rfl | assumption | exact decide_eq_true (by first | assumption | omega) | exact decide_eq_false (by first | assumption | exact not_not_intro (by assumption) | omega) | fail)) ?_ | refine CW.cond_false rfl (by (first | rfl | assumption | exact decide_eq_true (by first | assumption | omega) | exact decide_eq_false (by first | assumption | exact not_not_intro (by assumption) | omega) | fail)) ?_ | (refine CW.cond_dnot rfl ?_ ?_ <;> intro _ <;> try (exfalso; omega)) | (refine CW.cond_dec rfl ?_ ?_ <;> intro _ <;> try (exfalso; omega)) | (refine CW.cond rfl ?_ ?_ <;> intro _) | fail) | (refine dk 4 ?_; refine CW.skip ?_) | (refine dk 5 ?_; refine CW.ret ?_) | (refine dk 7 ?_; refine CW.block ?_)) | refine OW.nil ?_ | refine PK.code_normal ?_ | refine PK.code_ret ?_ | refine PK.nil_ret ?_ | refine RW.step rfl (gd_none rfl) rfl ?_ | fail)
  · rename_i hne
    refine ⟨_, ResOK.one rfl, ?_, rfl⟩
    congr 1
    exact (decide_eq_false (fun e => hne (by rw [e]))).symm
  rename_i hne
  have hab : a.length = b.length := by omega
  refine CW.loop (fun i : Nat => [(0, .slice p1 a.length cap1), (1, .slice p2 b.length cap2), (5, .int .i64 i)]) (fun i h' => h = h' ∧ i ≤ a.length ∧ a.take i = b.take i) (fun i => a.length - i) 0 (by (repeat (first | exact trivial | refine ⟨rfl, ?_⟩))) ⟨rfl, Nat.zero_le _, by simp⟩ ?_
  rintro i _ ⟨rfl, hi, heq⟩
  by_cases hin : i < a.length
  · obtain ⟨x, hx⟩ : ∃ x, a[i]? = some x := ⟨_, List.getElem?_eq_getElem hin⟩
    obtain ⟨y, hy⟩ : ∃ y, b[i]? = some y := ⟨_, List.getElem?_eq_getElem (by omega)⟩
    obtain ⟨b1, o1, rfl, hb1, _, _, _⟩ := clks_val h1 (by omega)
    obtain ⟨b2, o2, rfl, hb2, _, _, _⟩ := clks_val h2 (by omega)
    obtain ⟨w1, hcx, hk1⟩ := clk_at2 h1 hx
    obtain ⟨w2, hcy, hk2⟩ := clk_at2 h2 hy
    obtain ⟨q1, qc1, rfl⟩ := hk1.s.sl.shape
    obtain ⟨q2, qc2, rfl⟩ := hk2.s.sl.shape
    repeat' (first | (refine St.d ?_; first | (refine dk 0 ?_; refine St.move rfl ?_) | (refine dk 2 ?_; first | refine St.load pg rfl rfl rfl (by (first | assumption | exact Blk.cel (by (repeat (first | assumption | exact New.blk (by assumption) | exact Upd.blk (by assumption) | (apply New.old; assumption) | (apply Upd.keep; assumption; (focus (first | assumption | exact Ne.symm (by assumption) | omega | (intro hne; simp only at hne; omega)))) | (apply Stp.blk0; assumption) | (apply Stp.blk1; assumption; (focus (first | assumption | exact Ne.symm (by assumption) | omega | (intro hne; simp only at hne; omega))))))) (by rfl) | exact Cels.fld (by assumption) (by rfl) | exact Cels.fld0 (by assumption) (by rfl) | (repeat (first | assumption | (apply New.oldc; assumption) | (apply Upd.keepc; assumption; (focus (first | assumption | exact Ne.symm (by assumption) | omega | (intro hne; simp only at hne; omega)))) | (apply Stp.cel0; assumption))))) (by first | exact List.not_mem_nil | assumption) rfl ?_ | refine St.loadS pg rfl rfl rfl (by first | assumption | exact Blk.cels0 (by (repeat (first | assumption | exact New.blk (by assumption) | exact Upd.blk (by assumption) | (apply New.old; assumption) | (apply Upd.keep; assumption; (focus (first | assumption | exact Ne.symm (by assumption) | omega | (intro hne; simp only at hne; omega)))) | (apply Stp.blk0; assumption) | (apply Stp.blk1; assumption; (focus (first | assumption | exact Ne.symm (by assumption) | omega | (intro hne; simp only at hne; omega)))))))) (by first | exact List.not_mem_nil | assumption) rfl rfl ?_ | fail) | (refine dk 23 ?_; first | refine St.call pg rfl rfl rfl ?_ | refine St.call0 pg rfl rfl rfl ?_ | refine St.callX pg rfl rfl rfl ?_ | fail) | (refine dk 14 ?_; refine St.lss rfl rfl ?_) | (refine dk 10 ?_; first | refine St.indexAddr1 pg rfl rfl rfl rfl rfl rfl rfl (by first | omega | decide | exact Nat.succ_pos _ | (show 0 < _; omega)) ?_ | refine St.indexAddr pg rfl rfl rfl rfl rfl rfl (by first | omega | decide | exact Nat.succ_pos _ | (show 0 < _; omega)) ?_ | refine St.indexAddrA1 pg rfl rfl rfl rfl rfl rfl rfl (by first | omega | decide) ?_ | fail) | (refine dk 11 ?_; refine St.len pg rfl rfl rfl ?_)) | (refine OW.d ?_; refine dk 0 ?_; refine OW.step (gd_none rfl) rfl ?_) | (refine CW.d ?_; first | (refine dk 0 ?_; refine CW.seq ?_) | (refine dk 1 ?_; refine CW.region ?_) | (refine dk 3 ?_; first | refine CW.cond_true rfl (by (first | rfl | assumption | exact decide_eq_true (by first | assumption | omega) | exact decide_eq_false (by first | assumption | exact not_not_intro (by assumption) | omega) | fail)) ?_ | refine CW.cond_false rfl (by (first | rfl | assumption | exact decide_eq_true (by first | assumption | omega) | exact decide_eq_false (by first | assumption | exact not_not_intro (by assumption) | omega) | fail)) ?_ | (refine CW.cond_dnot rfl ?_ ?_ <;> intro _ <;> try (exfalso; omega)) | (refine CW.cond_dec rfl ?_ ?_ <;> intro _ <;> try (exfalso; omega)) | (refine CW.cond rfl ?_ ?_ <;> intro _) | fail) | (refine dk 4 ?_; refine CW.skip ?_) | (refine dk 7 ?_; refine CW.block ?_)) | refine OW.nil ?_ | refine PK.code_normal ?_ | refine RW.step rfl (gd_none rfl) rfl ?_ | (refine CW.d ?_; refine dk 2 ?_; refine CW.region_draw [] ord36 pg.mix (by kernel_rfl) (by kernel_rfl) ?_) | fail)
    refine (rints_any hk1.s hk2.s hk1.l).same ?_
    repeat' (first | (refine St.d ?_; first | (refine dk 0 ?_; refine St.move rfl ?_) | (refine dk 1 ?_; refine St.assign rfl ?_) | (refine dk 18 ?_; refine St.add rfl rfl (by omega) ?_) | (refine dk 7 ?_; first | refine St.not_dec rfl ?_ | refine St.not rfl ?_ | fail)) | (refine OW.d ?_; refine dk 0 ?_; refine OW.step (gd_none rfl) rfl ?_) | (refine CW.d ?_; first | (refine dk 0 ?_; refine CW.seq ?_) | (refine dk 1 ?_; refine CW.region ?_) | (refine dk 3 ?_; first | refine CW.cond_true rfl (by (first | rfl | assumption | exact decide_eq_true (by first | assumption | omega) | exact decide_eq_false (by first | assumption | exact not_not_intro (by assumption) | omega) | fail)) ?_ | refine CW.cond_false rfl (by (first | rfl | assumption | exact decide_eq_true (by first | assumption | omega) | exact decide_eq_false (by first | assumption | exact not_not_intro (by assumption) | omega) | fail)) ?_ | (refine CW.cond_dnot rfl ?_ ?_ <;> intro _ <;> try (exfalso; omega)) | (refine CW.cond_dec rfl ?_ ?_ <;> intro _ <;> try (exfalso; omega)) | (refine CW.cond rfl ?_ ?_ <;> intro _) | fail) | (refine dk 4 ?_; refine CW.skip ?_) | (refine dk 5 ?_; refine CW.ret ?_)) | refine OW.nil ?_ | refine PK.code_normal ?_ | refine PK.blk_normal ?_ | refine PK.lp_normal ?_ | refine PK.code_ret ?_ | refine PK.blk_ret ?_ | refine PK.lp_ret ?_ | refine PK.nil_ret ?_ | refine RW.done ?_ | refine RW.step rfl (gd_none rfl) rfl ?_ | (refine CW.d ?_; refine dk 2 ?_; refine CW.region_draw [] ord36 pg.mix (by kernel_rfl) (by kernel_rfl) ?_) | fail)
    · rename_i hxy
      refine ⟨_, ResOK.one rfl, ?_, rfl⟩
      congr 1
      refine (decide_eq_false (fun e => hxy ?_)).symm
      subst e
      rw [hx] at hy; cases hy; rfl
    · rename_i hxy
      refine ⟨i + 1, by (repeat (first | exact trivial | refine ⟨rfl, ?_⟩)), ⟨rfl, hin, ?_⟩, by omega⟩
      have hxy' : x = y := by simpa using hxy
      rw [List.take_add_one, List.take_add_one, hx, hy, heq, hxy']
  · have : i = a.length := by omega
    subst this
    have he : a = b := by
      rw [List.take_length] at heq
      rw [heq, hab, List.take_length]
    repeat' (first | (refine St.d ?_; first | (refine dk 0 ?_; refine St.move rfl ?_) | (refine dk 1 ?_; refine St.assign rfl ?_) | (refine dk 14 ?_; refine St.lss rfl rfl ?_) | (refine dk 11 ?_; refine St.len pg rfl rfl rfl ?_)) | (refine OW.d ?_; refine dk 0 ?_; refine OW.step (gd_none rfl) rfl ?_) | (refine CW.d ?_; first | (refine dk 0 ?_; refine CW.seq ?_) | (refine dk 1 ?_; refine CW.region ?_) | (refine dk 3 ?_; first | refine CW.cond_true rfl (by (first | rfl | assumption | exact decide_eq_true (by first | assumption | omega) | exact decide_eq_false (by first | assumption | exact not_not_intro (by assumption) | omega) | fail)) ?_ | refine CW.cond_false rfl (by (first | rfl | assumption | exact decide_eq_true (by first | assumption | omega) | exact decide_eq_false (by first | assumption | exact not_not_intro (by assumption) | omega) | fail)) ?_ | (refine CW.cond_dnot rfl ?_ ?_ <;> intro _ <;> try (exfalso; omega)) | (refine CW.cond_dec rfl ?_ ?_ <;> intro _ <;> try (exfalso; omega)) | (refine CW.cond rfl ?_ ?_ <;> intro _) | fail) | (refine dk 5 ?_; refine CW.ret ?_) | (refine dk 6 ?_; refine CW.exit ?_)) | refine OW.nil ?_ | refine PK.code_normal ?_ | refine PK.code_exit ?_ | refine PK.lp_exit ?_ | refine PK.blk_exit ?_ | refine PK.nil_ret ?_ | refine RW.step rfl (gd_none rfl) rfl ?_ | fail)
    exact ⟨_, ResOK.one rfl, by rw [decide_eq_true he], rfl⟩

/-! ### Missing and Behind -/
/-- The second list goes beyond the first one, up to some place. -/
def exc (a c : List Int) (j : Nat) : Prop := ∃ k, k < j ∧ ∃ x y, a[k]? = some x ∧ c[k]? = some y ∧ x < y
set_option maxHeartbeats 1000000 in
theorem missing_any {h : Heap} {v1 v2 : Value} {a c : List Int} {n : Nat} (h1 : CkV h v1 a) (h2 : CkV h v2 c) (ha : vld a ∧ a.length = n) (hc : vld c ∧ c.length = n) :
    CallsH Try.prog 74 #[v1, v2] h fun r h' => ∃ (p : Option Addr) (m cap : Nat), r = .slice p m cap ∧ m ≤ 5 ∧ (0 < m ↔ exc a c n) ∧ Stp [] h h' := by
  obtain ⟨p1, cap1, rfl⟩ := h1.s.sl.shape
  obtain ⟨p2, cap2, rfl⟩ := h2.s.sl.shape
  have hal := ha.2
  have hcl := hc.2
  have hn5 : 1 ≤ n ∧ n ≤ 5 := by rw [← hcl]; exact hc.1.2
  refine CallsH.of (l := [_, _]) Try.func74 rfl Try.ntmps74 Try.results74 rfl ?_
  repeat' (first | (refine St.d ?_; first | (refine dk 0 ?_; refine St.move rfl ?_) | (refine dk 1 ?_; refine St.assign rfl ?_) | (refine dk 23 ?_; first | refine St.call pg rfl rfl rfl ?_ | refine St.call0 pg rfl rfl rfl ?_ | refine St.callX pg rfl rfl rfl ?_ | fail) | (refine dk 29 ?_; refine St.buildSlice pg rfl rfl rfl rfl rfl rfl rfl (by (repeat (first | exact Fill.nil | (apply Fill.one; rfl; rfl; (focus (first | exact SetL.set (by assumption) | (repeat (first | exact SetL.z | apply SetL.s))))) | (apply Fill.agg; rfl; rfl; (focus (repeat (first | exact SetR.z | (apply SetR.c; (focus (first | exact SetL.set (by assumption) | (repeat (first | exact SetL.z | apply SetL.s)))))))))))) rfl ?_; intro _ _ _ _ _)) | (refine OW.d ?_; refine dk 0 ?_; refine OW.step (gd_none rfl) rfl ?_) | (refine CW.d ?_; first | (refine dk 0 ?_; refine CW.seq ?_) | (refine dk 1 ?_; refine CW.region ?_)) | refine OW.nil ?_ | refine PK.code_normal ?_ | refine RW.step rfl (gd_none rfl) rfl ?_ | fail)
  rename_i nb h3 hn3 enb z1
  have hst1 : Stp [] h h3 := hn3.stp
  have hck : clks.R h3 (fun _ => True) [.slice (some ⟨nb, 0, none⟩) 2 2] [a, c] := by
    refine clks_of (vs := [.slice p1 a.length cap1, .slice p2 c.length cap2]) (Sl.ofBlk hn3.blk) rfl (by simp) (fun i e x he hx => ?_)
    match i, he, hx with
    | 0, he, hx => simp at he hx; subst he; subst hx; exact h1.grow hst1
    | 1, he, hx => simp at he hx; subst he; subst hx; exact h2.grow hst1
    | i + 2, he, _ => simp at he
  have halk : alk [a, c] := ⟨by simp, fun e he => by
    simp at he
    rcases he with rfl | rfl
    · exact ⟨ha.1, rfl⟩
    · exact ⟨hc.1, by simp; omega⟩⟩
  refine (alike_any hck).same ?_
  rw [decide_eq_true halk]
  repeat' (first | (refine St.d ?_; first | (refine dk 0 ?_; refine St.move rfl ?_) | (refine dk 1 ?_; refine St.assign rfl ?_) | (refine dk 11 ?_; refine St.len pg rfl rfl rfl ?_) | (refine dk 7 ?_; first | refine St.not_dec rfl ?_ | refine St.not rfl ?_ | fail)) | (refine OW.d ?_; refine dk 0 ?_; refine OW.step (gd_none rfl) rfl ?_) | (refine CW.d ?_; first | (refine dk 0 ?_; refine CW.seq ?_) | (refine dk 1 ?_; refine CW.region ?_) | (refine dk 3 ?_; first | refine CW.cond_true rfl (by (first | rfl | assumption | exact decide_eq_true (by first | assumption | omega) | exact decide_eq_false (by first | assumption | exact not_not_intro (by assumption) | omega) | fail)) ?_ | refine CW.cond_false rfl (by (first | rfl | assumption | exact decide_eq_true (by first | assumption | omega) | exact decide_eq_false (by first | assumption | exact not_not_intro (by assumption) | omega) | fail)) ?_ | (refine CW.cond_dnot rfl ?_ ?_ <;> intro _ <;> try (exfalso; omega)) | (refine CW.cond_dec rfl ?_ ?_ <;> intro _ <;> try (exfalso; omega)) | (refine CW.cond rfl ?_ ?_ <;> intro _) | fail) | (refine dk 4 ?_; refine CW.skip ?_) | (refine dk 7 ?_; refine CW.block ?_)) | refine OW.nil ?_ | refine PK.code_normal ?_ | refine RW.step rfl (gd_none rfl) rfl ?_ | fail)
  refine CW.loop (fun x : Nat × Value => [(0, .slice p1 a.length cap1), (1, .slice p2 c.length cap2), (5, x.2), (13, .int .i64 a.length), (14, .int .i64 x.1)])
    (fun x h4 => x.1 ≤ n ∧ Stp [] h h4 ∧ (∀ b ∈ blkOf x.2, h.size ≤ b) ∧ ∃ (m : Nat) (vs : List Value), m ≤ x.1 ∧ Own h4 x.2 170 3 m vs ∧ (0 < m ↔ exc a c x.1))
    (fun x => n - x.1) (0, .slice none 0 0) (by (repeat (first | exact trivial | refine ⟨rfl, ?_⟩))) ⟨Nat.zero_le _, hst1, by simp [blkOf], 0, [], Nat.le_refl _, Own.nil, by simp [exc]⟩ ?_
  rintro ⟨j, ov⟩ h4 ⟨hj, hst4, hnew, m, vs, hm, ho, hiff⟩
  simp only at hj hnew hm ho hiff
  obtain ⟨po, capo, rfl⟩ := ho.sl.shape
  by_cases hjn : j < n
  · obtain ⟨x, hx⟩ : ∃ x, a[j]? = some x := ⟨_, List.getElem?_eq_getElem (by omega)⟩
    obtain ⟨y, hy⟩ : ∃ y, c[j]? = some y := ⟨_, List.getElem?_eq_getElem (by omega)⟩
    have hk1 := h1.grow hst4
    have hk2 := h2.grow hst4
    rcases hk1.s.cases with e | ⟨b1, o1, c1, e1, _, _⟩
    · subst e; simp at hx
    rcases hk2.s.cases with e | ⟨b2, o2, c2, e2, _, _⟩
    · subst e; simp at hy
    simp only [Value.slice.injEq] at e1 e2
    obtain ⟨rfl, _, rfl⟩ := e1
    obtain ⟨rfl, _, rfl⟩ := e2
    have hcx := hk1.s.cel hx
    have hcy := hk2.s.cel hy
    have hxr := h1.r x (List.mem_of_getElem? hx)
    have hyr := h2.r y (List.mem_of_getElem? hy)
    have hstep : exc a c (j + 1) ↔ exc a c j ∨ x < y := by
      constructor
      · rintro ⟨k, hk, x', y', hx', hy', hlt⟩
        by_cases hkj : k = j
        · subst hkj; rw [hx] at hx'; rw [hy] at hy'; cases hx'; cases hy'; exact .inr hlt
        · exact .inl ⟨k, by omega, x', y', hx', hy', hlt⟩
      · rintro (⟨k, hk, h9⟩ | hlt)
        · exact ⟨k, by omega, h9⟩
        · exact ⟨j, by omega, x, y, hx, hy, hlt⟩
    repeat' (first | (refine St.d ?_; first | (refine dk 0 ?_; refine St.move rfl ?_) | (refine dk 2 ?_; first | refine St.load pg rfl rfl rfl (by (first | assumption | exact Blk.cel (by (repeat (first | assumption | exact New.blk (by assumption) | exact Upd.blk (by assumption) | (apply New.old; assumption) | (apply Upd.keep; assumption; (focus (first | assumption | exact Ne.symm (by assumption) | omega | (intro hne; simp only at hne; omega)))) | (apply Stp.blk0; assumption) | (apply Stp.blk1; assumption; (focus (first | assumption | exact Ne.symm (by assumption) | omega | (intro hne; simp only at hne; omega))))))) (by rfl) | exact Cels.fld (by assumption) (by rfl) | exact Cels.fld0 (by assumption) (by rfl) | (repeat (first | assumption | (apply New.oldc; assumption) | (apply Upd.keepc; assumption; (focus (first | assumption | exact Ne.symm (by assumption) | omega | (intro hne; simp only at hne; omega)))) | (apply Stp.cel0; assumption))))) (by first | exact List.not_mem_nil | assumption) rfl ?_ | refine St.loadS pg rfl rfl rfl (by first | assumption | exact Blk.cels0 (by (repeat (first | assumption | exact New.blk (by assumption) | exact Upd.blk (by assumption) | (apply New.old; assumption) | (apply Upd.keep; assumption; (focus (first | assumption | exact Ne.symm (by assumption) | omega | (intro hne; simp only at hne; omega)))) | (apply Stp.blk0; assumption) | (apply Stp.blk1; assumption; (focus (first | assumption | exact Ne.symm (by assumption) | omega | (intro hne; simp only at hne; omega)))))))) (by first | exact List.not_mem_nil | assumption) rfl rfl ?_ | fail) | (refine dk 1 ?_; refine St.assign rfl ?_) | (refine dk 14 ?_; refine St.lss rfl rfl ?_) | (refine dk 18 ?_; refine St.add rfl rfl (by omega) ?_) | (refine dk 10 ?_; first | refine St.indexAddr1 pg rfl rfl rfl rfl rfl rfl rfl (by first | omega | decide | exact Nat.succ_pos _ | (show 0 < _; omega)) ?_ | refine St.indexAddr pg rfl rfl rfl rfl rfl rfl (by first | omega | decide | exact Nat.succ_pos _ | (show 0 < _; omega)) ?_ | refine St.indexAddrA1 pg rfl rfl rfl rfl rfl rfl rfl (by first | omega | decide) ?_ | fail) | (refine dk 28 ?_; refine St.build pg rfl rfl rfl rfl rfl (by (repeat (first | exact Fill.nil | (apply Fill.one; rfl; rfl; (focus (first | exact SetL.set (by assumption) | (repeat (first | exact SetL.z | apply SetL.s))))) | (apply Fill.agg; rfl; rfl; (focus (repeat (first | exact SetR.z | (apply SetR.c; (focus (first | exact SetL.set (by assumption) | (repeat (first | exact SetL.z | apply SetL.s)))))))))))) ?_) | (refine dk 29 ?_; refine St.buildSlice pg rfl rfl rfl rfl rfl rfl rfl (by (repeat (first | exact Fill.nil | (apply Fill.one; rfl; rfl; (focus (first | exact SetL.set (by assumption) | (repeat (first | exact SetL.z | apply SetL.s))))) | (apply Fill.agg; rfl; rfl; (focus (repeat (first | exact SetR.z | (apply SetR.c; (focus (first | exact SetL.set (by assumption) | (repeat (first | exact SetL.z | apply SetL.s)))))))))))) rfl ?_; intro _ _ _ _ _)) | (refine OW.d ?_; refine dk 0 ?_; refine OW.step (gd_none rfl) rfl ?_) | (refine CW.d ?_; first | (refine dk 0 ?_; refine CW.seq ?_) | (refine dk 1 ?_; refine CW.region ?_) | (refine dk 3 ?_; first | refine CW.cond_true rfl (by (first | rfl | assumption | exact decide_eq_true (by first | assumption | omega) | exact decide_eq_false (by first | assumption | exact not_not_intro (by assumption) | omega) | fail)) ?_ | refine CW.cond_false rfl (by (first | rfl | assumption | exact decide_eq_true (by first | assumption | omega) | exact decide_eq_false (by first | assumption | exact not_not_intro (by assumption) | omega) | fail)) ?_ | (refine CW.cond_dnot rfl ?_ ?_ <;> intro _ <;> try (exfalso; omega)) | (refine CW.cond_dec rfl ?_ ?_ <;> intro _ <;> try (exfalso; omega)) | (refine CW.cond rfl ?_ ?_ <;> intro _) | fail) | (refine dk 4 ?_; refine CW.skip ?_) | (refine dk 7 ?_; refine CW.block ?_)) | refine OW.nil ?_ | refine PK.code_normal ?_ | refine PK.blk_normal ?_ | refine PK.lp_normal ?_ | refine RW.done ?_ | refine RW.step rfl (gd_none rfl) rfl ?_ | (refine CW.d ?_; refine dk 2 ?_; refine CW.region_draw [] ord74 pg.mix (by kernel_rfl) (by kernel_rfl) ?_) | fail)
    · rename_i hlt nb5 h5 hn5' e5 z5
      have hst5 : Stp [] h4 h5 := hn5'.stp
      have hz4 := hst4.size
      refine St.d ?_
      refine dk 25 ?_
      refine St.append pg rfl rfl rfl rfl rfl rfl (ho.stp hst5 (by simp)) (Sl.ofBlk (l := [.int .i64 j, .int .i64 (x + 1), .int .i64 y]) hn5'.blk) (m := 1) rfl (by simp [Value.oneCell']) ?_ ?_ rfl ?_
      · show (_ + 1) * 24 ≤ _
        omega
      · omega
      intro ov2 h6 happ
      repeat' (first | (refine St.d ?_; first | (refine dk 0 ?_; refine St.move rfl ?_) | (refine dk 1 ?_; refine St.assign rfl ?_) | (refine dk 18 ?_; refine St.add rfl rfl (by omega) ?_)) | (refine OW.d ?_; refine dk 0 ?_; refine OW.step (gd_none rfl) rfl ?_) | (refine CW.d ?_; first | (refine dk 1 ?_; refine CW.region ?_)) | refine OW.nil ?_ | refine PK.code_normal ?_ | refine PK.blk_normal ?_ | refine PK.lp_normal ?_ | refine RW.done ?_ | refine RW.step rfl (gd_none rfl) rfl ?_ | (refine CW.d ?_; refine dk 2 ?_; refine CW.region_draw [] ord74 pg.mix (by kernel_rfl) (by kernel_rfl) ?_) | fail)
      refine ⟨(j + 1, ov2), by (repeat (first | exact trivial | refine ⟨rfl, ?_⟩)), ⟨hjn, Stp.stp happ.stp (hst4.trans hst5) (fun b hb => .inr (hnew b hb)), fun b hb => ?_, m + 1, _, by simp only; omega, happ.own, ⟨fun _ => hstep.2 (.inr hlt), fun _ => by omega⟩⟩, by simp only; omega⟩
      rcases happ.blk with h8 | h8
      · simp only at hb
        rw [h8] at hb
        exact hnew b hb
      · have h10 := h8 b hb
        have := hst5.size
        omega
    · rename_i hlt
      exact ⟨(j + 1, .slice po m capo), by (repeat (first | exact trivial | refine ⟨rfl, ?_⟩)), ⟨hjn, hst4, hnew, m, vs, by simp only; omega, ho, by rw [hiff]; exact (hstep.trans (or_iff_left hlt)).symm⟩, by simp only; omega⟩
  · have : j = n := by omega
    subst this
    repeat' (first | (refine St.d ?_; first | (refine dk 0 ?_; refine St.move rfl ?_) | (refine dk 1 ?_; refine St.assign rfl ?_) | (refine dk 14 ?_; refine St.lss rfl rfl ?_)) | (refine OW.d ?_; refine dk 0 ?_; refine OW.step (gd_none rfl) rfl ?_) | (refine CW.d ?_; first | (refine dk 0 ?_; refine CW.seq ?_) | (refine dk 1 ?_; refine CW.region ?_) | (refine dk 3 ?_; first | refine CW.cond_true rfl (by (first | rfl | assumption | exact decide_eq_true (by first | assumption | omega) | exact decide_eq_false (by first | assumption | exact not_not_intro (by assumption) | omega) | fail)) ?_ | refine CW.cond_false rfl (by (first | rfl | assumption | exact decide_eq_true (by first | assumption | omega) | exact decide_eq_false (by first | assumption | exact not_not_intro (by assumption) | omega) | fail)) ?_ | (refine CW.cond_dnot rfl ?_ ?_ <;> intro _ <;> try (exfalso; omega)) | (refine CW.cond_dec rfl ?_ ?_ <;> intro _ <;> try (exfalso; omega)) | (refine CW.cond rfl ?_ ?_ <;> intro _) | fail) | (refine dk 5 ?_; refine CW.ret ?_) | (refine dk 6 ?_; refine CW.exit ?_)) | refine OW.nil ?_ | refine PK.code_normal ?_ | refine PK.code_exit ?_ | refine PK.lp_exit ?_ | refine PK.blk_exit ?_ | refine PK.nil_ret ?_ | refine RW.step rfl (gd_none rfl) rfl ?_ | fail)
    exact ⟨_, ResOK.one rfl, po, m, capo, rfl, by omega, hiff, hst4⟩

def excB (a c : List Int) (k : Nat) : Bool := match a[k]?, c[k]? with | some x, some y => decide (x < y) | _, _ => false
theorem exc_iff (a c : List Int) (j : Nat) : (List.range j).any (excB a c) = true ↔ exc a c j := by
  simp only [List.any_eq_true, List.mem_range]
  refine exists_congr fun k => and_congr_right fun _ => ?_
  unfold excB
  constructor
  · intro hx
    split at hx
    · rename_i x y h1 h2
      exact ⟨x, y, h1, h2, of_decide_eq_true hx⟩
    · cases hx
  · rintro ⟨x, y, h1, h2, h3⟩
    rw [h1, h2]
    exact decide_eq_true h3
instance excD (a c : List Int) (j : Nat) : Decidable (exc a c j) := decidable_of_iff _ (exc_iff a c j)
/-- The replicas, up to some place, whose rows do not contain a clock. -/
def bh (rows : List (List Int)) (c : List Int) : Nat → List Int
  | 0 => []
  | j + 1 => if exc (rows.getD j []) c c.length then bh rows c j ++ [(j : Int)] else bh rows c j
theorem bh_len (rows : List (List Int)) (c : List Int) : ∀ j, (bh rows c j).length ≤ j
  | 0 => Nat.le_refl _
  | j + 1 => by
    have := bh_len rows c j
    unfold bh
    split
    · rw [List.length_append, List.length_singleton]; omega
    · omega
def behind (n : Nat) (rows : List (List Int)) (c : List Int) : List Int := if fit c n then bh rows c n else []
set_option maxHeartbeats 1000000 in
theorem behind_any {h : Heap} {K n : Nat} {rows : List (List Int)} {S : List Nat} (k : KnAt h K n rows S) {v : Value} {c : List Int} (hc : CkV h v c) :
    CallsH Try.prog 41 #[.pointer (some ⟨K, 0, none⟩), v] h fun r h' => IntS h' r (behind n rows c) ∧ Stp [] h h' := by
  have hnum := k.num
  have hn5 := k.n5
  have hrl := k.len
  obtain ⟨p, cap, rfl⟩ := hc.s.sl.shape
  refine CallsH.of (l := [_, _]) Try.func41 rfl Try.ntmps41 Try.results41 rfl ?_
  repeat' (first | (refine St.d ?_; first | (refine dk 0 ?_; refine St.move rfl ?_) | (refine dk 4 ?_; first | refine St.fieldAddr0 pg rfl rfl rfl rfl ?_ | refine St.fieldAddr pg rfl rfl rfl rfl ?_ | fail) | (refine dk 2 ?_; first | refine St.load pg rfl rfl rfl (by (first | assumption | exact Blk.cel (by (repeat (first | assumption | exact New.blk (by assumption) | exact Upd.blk (by assumption) | (apply New.old; assumption) | (apply Upd.keep; assumption; (focus (first | assumption | exact Ne.symm (by assumption) | omega | (intro hne; simp only at hne; omega)))) | (apply Stp.blk0; assumption) | (apply Stp.blk1; assumption; (focus (first | assumption | exact Ne.symm (by assumption) | omega | (intro hne; simp only at hne; omega))))))) (by rfl) | exact Cels.fld (by assumption) (by rfl) | exact Cels.fld0 (by assumption) (by rfl) | (repeat (first | assumption | (apply New.oldc; assumption) | (apply Upd.keepc; assumption; (focus (first | assumption | exact Ne.symm (by assumption) | omega | (intro hne; simp only at hne; omega)))) | (apply Stp.cel0; assumption))))) (by first | exact List.not_mem_nil | assumption) rfl ?_ | refine St.loadS pg rfl rfl rfl (by first | assumption | exact Blk.cels0 (by (repeat (first | assumption | exact New.blk (by assumption) | exact Upd.blk (by assumption) | (apply New.old; assumption) | (apply Upd.keep; assumption; (focus (first | assumption | exact Ne.symm (by assumption) | omega | (intro hne; simp only at hne; omega)))) | (apply Stp.blk0; assumption) | (apply Stp.blk1; assumption; (focus (first | assumption | exact Ne.symm (by assumption) | omega | (intro hne; simp only at hne; omega)))))))) (by first | exact List.not_mem_nil | assumption) rfl rfl ?_ | fail) | (refine dk 1 ?_; refine St.assign rfl ?_) | (refine dk 5 ?_; refine St.nilCheck rfl ?_) | (refine dk 23 ?_; first | refine St.call pg rfl rfl rfl ?_ | refine St.call0 pg rfl rfl rfl ?_ | refine St.callX pg rfl rfl rfl ?_ | fail)) | (refine OW.d ?_; refine dk 0 ?_; refine OW.step (gd_none rfl) rfl ?_) | (refine CW.d ?_; first | (refine dk 0 ?_; refine CW.seq ?_) | (refine dk 1 ?_; refine CW.region ?_)) | refine OW.nil ?_ | refine PK.code_normal ?_ | fail | fail)
  refine (fits_any hc n).same ?_
  repeat' (first | (refine St.d ?_; first | (refine dk 0 ?_; refine St.move rfl ?_) | (refine dk 4 ?_; first | refine St.fieldAddr0 pg rfl rfl rfl rfl ?_ | refine St.fieldAddr pg rfl rfl rfl rfl ?_ | fail) | (refine dk 2 ?_; first | refine St.load pg rfl rfl rfl (by (first | assumption | exact Blk.cel (by (repeat (first | assumption | exact New.blk (by assumption) | exact Upd.blk (by assumption) | (apply New.old; assumption) | (apply Upd.keep; assumption; (focus (first | assumption | exact Ne.symm (by assumption) | omega | (intro hne; simp only at hne; omega)))) | (apply Stp.blk0; assumption) | (apply Stp.blk1; assumption; (focus (first | assumption | exact Ne.symm (by assumption) | omega | (intro hne; simp only at hne; omega))))))) (by rfl) | exact Cels.fld (by assumption) (by rfl) | exact Cels.fld0 (by assumption) (by rfl) | (repeat (first | assumption | (apply New.oldc; assumption) | (apply Upd.keepc; assumption; (focus (first | assumption | exact Ne.symm (by assumption) | omega | (intro hne; simp only at hne; omega)))) | (apply Stp.cel0; assumption))))) (by first | exact List.not_mem_nil | assumption) rfl ?_ | refine St.loadS pg rfl rfl rfl (by first | assumption | exact Blk.cels0 (by (repeat (first | assumption | exact New.blk (by assumption) | exact Upd.blk (by assumption) | (apply New.old; assumption) | (apply Upd.keep; assumption; (focus (first | assumption | exact Ne.symm (by assumption) | omega | (intro hne; simp only at hne; omega)))) | (apply Stp.blk0; assumption) | (apply Stp.blk1; assumption; (focus (first | assumption | exact Ne.symm (by assumption) | omega | (intro hne; simp only at hne; omega)))))))) (by first | exact List.not_mem_nil | assumption) rfl rfl ?_ | fail) | (refine dk 1 ?_; refine St.assign rfl ?_) | (refine dk 5 ?_; refine St.nilCheck rfl ?_) | (refine dk 7 ?_; first | refine St.not_dec rfl ?_ | refine St.not rfl ?_ | fail)) | (refine OW.d ?_; refine dk 0 ?_; refine OW.step (gd_none rfl) rfl ?_) | (refine CW.d ?_; first | (refine dk 0 ?_; refine CW.seq ?_) | (refine dk 1 ?_; refine CW.region ?_) | (refine dk 3 ?_; first | refine CW.cond_true rfl (by (first | rfl | assumption | exact decide_eq_true (by first | assumption | omega) | exact decide_eq_false (by first | assumption | exact not_not_intro (by assumption) | omega) | fail)) ?_ | refine CW.cond_false rfl (by (first | rfl | assumption | exact decide_eq_true (by first | assumption | omega) | exact decide_eq_false (by first | assumption | exact not_not_intro (by assumption) | omega) | fail)) ?_ | (refine CW.cond_dnot rfl ?_ ?_ <;> intro _ <;> try (exfalso; omega)) | (refine CW.cond_dec rfl ?_ ?_ <;> intro _ <;> try (exfalso; omega)) | (refine CW.cond rfl ?_ ?_ <;> intro _) | fail) | (refine dk 4 ?_; refine CW.skip ?_) | (refine dk 5 ?_; refine CW.ret ?_) | (refine dk 7 ?_; refine CW.block ?_)) | refine OW.nil ?_ | refine PK.code_normal ?_ | refine PK.code_ret ?_ | refine PK.nil_ret ?_ | fail | fail)
  · rename_i hf
    refine ⟨_, ResOK.one rfl, ?_, Stp.refl _⟩
    rw [behind, if_neg hf]
    exact ⟨⟨.inl ⟨_, _, rfl, rfl, rfl⟩⟩⟩
  rename_i hf
  have hcn : c.length = n := by have := hf.2; omega
  refine CW.loop (fun x : Nat × Value => [(0, .pointer (some ⟨K, 0, none⟩)), (1, .slice p c.length cap), (5, x.2), (17, .int .i64 n), (18, .int .i64 x.1)])
    (fun x h1 => x.1 ≤ n ∧ Stp [] h h1 ∧ (∀ b ∈ blkOf x.2, h.size ≤ b) ∧ Own h1 x.2 3 1 (bh rows c x.1).length (intsV (bh rows c x.1)))
    (fun x => n - x.1) (0, .slice none 0 0) (by (repeat (first | exact trivial | refine ⟨rfl, ?_⟩))) ⟨Nat.zero_le _, Stp.refl _, by simp [blkOf], Own.nil⟩ ?_
  rintro ⟨j, ov⟩ h1 ⟨hj, hst1, hnew, ho⟩
  simp only at hj hnew ho
  obtain ⟨po, capo, rfl⟩ := ho.sl.shape
  by_cases hjn : j < n
  · obtain ⟨d, hd⟩ : ∃ d, rows[j]? = some d := ⟨_, List.getElem?_eq_getElem (by omega)⟩
    have k1 := k.grow hst1
    have hnum1 := k1.num
    obtain ⟨w, hcw, hw, hv, hdl, _⟩ := k1.row hd
    obtain ⟨p1, cap1, rfl⟩ := hw.s.sl.shape
    have hdg : rows.getD j [] = d := by simp [List.getD, hd]
    have hbl := bh_len rows c j
    repeat' (first | (refine St.d ?_; first | (refine dk 0 ?_; refine St.move rfl ?_) | (refine dk 4 ?_; first | refine St.fieldAddr0 pg rfl rfl rfl rfl ?_ | refine St.fieldAddr pg rfl rfl rfl rfl ?_ | fail) | (refine dk 2 ?_; first | refine St.load pg rfl rfl rfl (by (first | assumption | exact Blk.cel (by (repeat (first | assumption | exact New.blk (by assumption) | exact Upd.blk (by assumption) | (apply New.old; assumption) | (apply Upd.keep; assumption; (focus (first | assumption | exact Ne.symm (by assumption) | omega | (intro hne; simp only at hne; omega)))) | (apply Stp.blk0; assumption) | (apply Stp.blk1; assumption; (focus (first | assumption | exact Ne.symm (by assumption) | omega | (intro hne; simp only at hne; omega))))))) (by rfl) | exact Cels.fld (by assumption) (by rfl) | exact Cels.fld0 (by assumption) (by rfl) | (repeat (first | assumption | (apply New.oldc; assumption) | (apply Upd.keepc; assumption; (focus (first | assumption | exact Ne.symm (by assumption) | omega | (intro hne; simp only at hne; omega)))) | (apply Stp.cel0; assumption))))) (by first | exact List.not_mem_nil | assumption) rfl ?_ | refine St.loadS pg rfl rfl rfl (by first | assumption | exact Blk.cels0 (by (repeat (first | assumption | exact New.blk (by assumption) | exact Upd.blk (by assumption) | (apply New.old; assumption) | (apply Upd.keep; assumption; (focus (first | assumption | exact Ne.symm (by assumption) | omega | (intro hne; simp only at hne; omega)))) | (apply Stp.blk0; assumption) | (apply Stp.blk1; assumption; (focus (first | assumption | exact Ne.symm (by assumption) | omega | (intro hne; simp only at hne; omega)))))))) (by first | exact List.not_mem_nil | assumption) rfl rfl ?_ | fail) | (refine dk 1 ?_; refine St.assign rfl ?_) | (refine dk 5 ?_; refine St.nilCheck rfl ?_) | (refine dk 23 ?_; first | refine St.call pg rfl rfl rfl ?_ | refine St.call0 pg rfl rfl rfl ?_ | refine St.callX pg rfl rfl rfl ?_ | fail) | (refine dk 14 ?_; refine St.lss rfl rfl ?_) | (refine dk 10 ?_; first | refine St.indexAddr1 pg rfl rfl rfl rfl rfl rfl rfl (by first | omega | decide | exact Nat.succ_pos _ | (show 0 < _; omega)) ?_ | refine St.indexAddr pg rfl rfl rfl rfl rfl rfl (by first | omega | decide | exact Nat.succ_pos _ | (show 0 < _; omega)) ?_ | refine St.indexAddrA1 pg rfl rfl rfl rfl rfl rfl rfl (by first | omega | decide) ?_ | fail)) | (refine OW.d ?_; refine dk 0 ?_; refine OW.step (gd_none rfl) rfl ?_) | (refine CW.d ?_; first | (refine dk 0 ?_; refine CW.seq ?_) | (refine dk 1 ?_; refine CW.region ?_) | (refine dk 3 ?_; first | refine CW.cond_true rfl (by (first | rfl | assumption | exact decide_eq_true (by first | assumption | omega) | exact decide_eq_false (by first | assumption | exact not_not_intro (by assumption) | omega) | fail)) ?_ | refine CW.cond_false rfl (by (first | rfl | assumption | exact decide_eq_true (by first | assumption | omega) | exact decide_eq_false (by first | assumption | exact not_not_intro (by assumption) | omega) | fail)) ?_ | (refine CW.cond_dnot rfl ?_ ?_ <;> intro _ <;> try (exfalso; omega)) | (refine CW.cond_dec rfl ?_ ?_ <;> intro _ <;> try (exfalso; omega)) | (refine CW.cond rfl ?_ ?_ <;> intro _) | fail) | (refine dk 4 ?_; refine CW.skip ?_) | (refine dk 7 ?_; refine CW.block ?_)) | refine OW.nil ?_ | refine PK.code_normal ?_ | fail | fail)
    refine (missing_any hw (hc.grow hst1) ⟨hv, hdl⟩ ⟨hf.1, hcn⟩).mono ?_
    rintro _ h2 ⟨p3, m, cap3, rfl, hm5, hiff, hst2⟩
    repeat' (first | (refine St.d ?_; first | (refine dk 0 ?_; refine St.move rfl ?_) | (refine dk 18 ?_; refine St.add rfl rfl (by omega) ?_) | (refine dk 11 ?_; refine St.len pg rfl rfl rfl ?_) | (refine dk 16 ?_; refine St.gtr rfl rfl ?_) | (refine dk 29 ?_; refine St.buildSlice pg rfl rfl rfl rfl rfl rfl rfl (by (repeat (first | exact Fill.nil | (apply Fill.one; rfl; rfl; (focus (first | exact SetL.set (by assumption) | (repeat (first | exact SetL.z | apply SetL.s))))) | (apply Fill.agg; rfl; rfl; (focus (repeat (first | exact SetR.z | (apply SetR.c; (focus (first | exact SetL.set (by assumption) | (repeat (first | exact SetL.z | apply SetL.s)))))))))))) rfl ?_; intro _ _ _ _ _)) | (refine OW.d ?_; refine dk 0 ?_; refine OW.step (gd_none rfl) rfl ?_) | (refine CW.d ?_; first | (refine dk 1 ?_; refine CW.region ?_) | (refine dk 3 ?_; first | refine CW.cond_true rfl (by (first | rfl | assumption | exact decide_eq_true (by first | assumption | omega) | exact decide_eq_false (by first | assumption | exact not_not_intro (by assumption) | omega) | fail)) ?_ | refine CW.cond_false rfl (by (first | rfl | assumption | exact decide_eq_true (by first | assumption | omega) | exact decide_eq_false (by first | assumption | exact not_not_intro (by assumption) | omega) | fail)) ?_ | (refine CW.cond_dnot rfl ?_ ?_ <;> intro _ <;> try (exfalso; omega)) | (refine CW.cond_dec rfl ?_ ?_ <;> intro _ <;> try (exfalso; omega)) | (refine CW.cond rfl ?_ ?_ <;> intro _) | fail) | (refine dk 4 ?_; refine CW.skip ?_)) | refine OW.nil ?_ | refine PK.code_normal ?_ | refine PK.blk_normal ?_ | refine PK.lp_normal ?_ | fail | fail)
    · rename_i hlt nb h3 hn3 e3 z3
      have hex : exc (rows.getD j []) c c.length := by rw [hdg, hcn]; exact hiff.1 (by omega)
      have hbs : bh rows c (j + 1) = bh rows c j ++ [(j : Int)] := if_pos hex
      have hst3 : Stp [] h1 h3 := hst2.trans hn3.stp
      refine St.d ?_
      refine dk 25 ?_
      refine St.append pg rfl rfl rfl rfl rfl rfl (ho.stp hst3 (by simp)) (Sl.ofBlk (l := intsV [(j : Int)]) hn3.blk) (m := 1) rfl intsV_one ?_ ?_ rfl ?_
      · show (_ + 1) * 8 ≤ _
        omega
      · omega
      intro ov2 h4 happ
      have hz1 := hst1.size
      have hz3 := hst3.size
      repeat' (first | (refine St.d ?_; first | (refine dk 0 ?_; refine St.move rfl ?_) | (refine dk 1 ?_; refine St.assign rfl ?_) | (refine dk 18 ?_; refine St.add rfl rfl (by omega) ?_)) | (refine OW.d ?_; refine dk 0 ?_; refine OW.step (gd_none rfl) rfl ?_) | (refine CW.d ?_; first | (refine dk 1 ?_; refine CW.region ?_)) | refine OW.nil ?_ | refine PK.code_normal ?_ | refine PK.blk_normal ?_ | refine PK.lp_normal ?_ | fail | fail)
      refine ⟨(j + 1, ov2), by (repeat (first | exact trivial | refine ⟨rfl, ?_⟩)), ⟨hjn, Stp.stp happ.stp (hst1.trans hst3) (fun b hb => .inr (hnew b hb)), fun b hb => ?_, ?_⟩, by simp only; omega⟩
      · rcases happ.blk with h8 | h8
        · simp only at hb
          rw [h8] at hb
          exact hnew b hb
        · have h10 := h8 b hb
          omega
      · have h9 := happ.own
        simp only [hbs, List.length_append, List.length_singleton, intsV_append] at h9 ⊢
        exact h9
    · rename_i hlt
      have hex : ¬ exc (rows.getD j []) c c.length := by rw [hdg, hcn]; exact fun he => hlt (by have := hiff.2 he; omega)
      have hbs : bh rows c (j + 1) = bh rows c j := if_neg hex
      exact ⟨(j + 1, .slice po (bh rows c j).length capo), by (repeat (first | exact trivial | refine ⟨rfl, ?_⟩)), ⟨hjn, hst1.trans hst2, hnew, by simp only [hbs]; exact ho.stp hst2 (by simp)⟩, by simp only; omega⟩
  · have : j = n := by omega
    subst this
    repeat' (first | (refine St.d ?_; first | (refine dk 0 ?_; refine St.move rfl ?_) | (refine dk 1 ?_; refine St.assign rfl ?_) | (refine dk 14 ?_; refine St.lss rfl rfl ?_)) | (refine OW.d ?_; refine dk 0 ?_; refine OW.step (gd_none rfl) rfl ?_) | (refine CW.d ?_; first | (refine dk 0 ?_; refine CW.seq ?_) | (refine dk 1 ?_; refine CW.region ?_) | (refine dk 3 ?_; first | refine CW.cond_true rfl (by (first | rfl | assumption | exact decide_eq_true (by first | assumption | omega) | exact decide_eq_false (by first | assumption | exact not_not_intro (by assumption) | omega) | fail)) ?_ | refine CW.cond_false rfl (by (first | rfl | assumption | exact decide_eq_true (by first | assumption | omega) | exact decide_eq_false (by first | assumption | exact not_not_intro (by assumption) | omega) | fail)) ?_ | (refine CW.cond_dnot rfl ?_ ?_ <;> intro _ <;> try (exfalso; omega)) | (refine CW.cond_dec rfl ?_ ?_ <;> intro _ <;> try (exfalso; omega)) | (refine CW.cond rfl ?_ ?_ <;> intro _) | fail) | (refine dk 5 ?_; refine CW.ret ?_) | (refine dk 6 ?_; refine CW.exit ?_)) | refine OW.nil ?_ | refine PK.code_normal ?_ | refine PK.code_exit ?_ | refine PK.lp_exit ?_ | refine PK.blk_exit ?_ | refine PK.nil_ret ?_ | fail | fail)
    refine ⟨_, ResOK.one rfl, ?_, hst1⟩
    rw [behind, if_pos hf]
    exact ⟨ho.sl⟩
end Go.Proofs.Ytaopehadegknoaa
