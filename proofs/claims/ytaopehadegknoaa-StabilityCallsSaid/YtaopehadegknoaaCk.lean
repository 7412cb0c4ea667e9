/- Contracts of package clock: Valid, Zero, alike, fold, Join, Meet; conditions: the lists lie in the heap. -/
import Derived.Test.YtaopehadegknoaaEngH
import Derived.Test.YtaopehadegknoaaEngJ
import Derived.Test.YtaopehadegknoaaArr
import Derived.Test.YtaopehadegknoaaPg
namespace Go.Proofs.Ytaopehadegknoaa
open Go Go.CF
set_option maxRecDepth 20000

def vld (c : List Int) : Prop := (∀ x ∈ c, 0 ≤ x ∧ x ≤ 1024) ∧ 1 ≤ c.length ∧ c.length ≤ 5
instance (c : List Int) : Decidable (vld c) := inferInstanceAs (Decidable (_ ∧ _))

theorem vld_any {h : Heap} {v : Value} {c : List Int} (hs : IntS h v c) (hl : c.length ≤ 9223372036854775807) :
    CallsH Try.prog 52 #[v] h fun r h' => r = .bool (decide (vld c)) ∧ h' = h := by
  obtain ⟨p, cap, rfl⟩ := hs.sl.shape
  refine CallsH.of (l := [_]) Try.func52 rfl Try.ntmps52 Try.results52 rfl ?_
  repeat' (first | (refine St.d ?_; first | (refine dk 0 ?_; refine St.move rfl ?_) | (refine dk 1 ?_; refine St.assign rfl ?_) | (refine dk 11 ?_; refine St.len pg rfl rfl rfl ?_)) | (refine OW.d ?_; first | (refine dk 0 ?_; refine OW.step (gd_none rfl) rfl ?_) | (refine dk 1 ?_; first | refine OW.step (gd_yes rfl rfl rfl (by (first | rfl | assumption | exact decide_eq_true (by first | assumption | omega) | exact decide_eq_false (by first | assumption | exact not_not_intro (by assumption) | omega) | fail))) rfl ?_ | refine OW.pass (gd_no rfl rfl rfl (by (first | rfl | assumption | exact decide_eq_true (by first | assumption | omega) | exact decide_eq_false (by first | assumption | exact not_not_intro (by assumption) | omega) | fail))) rfl ?_ | refine OW.pass (gd_undef rfl rfl rfl) rfl ?_ | (refine OW.split_dnot rfl rfl rfl ?_ ?_ <;> intro _ <;> try (exfalso; omega)) | (refine OW.split_dec rfl rfl rfl ?_ ?_ <;> intro _ <;> try (exfalso; omega)) | (refine OW.split rfl rfl rfl ?_ ?_ <;> intro _) | fail)) | (refine CW.d ?_; first | (refine dk 0 ?_; refine CW.seq ?_) | (refine dk 1 ?_; refine CW.region ?_) | (refine dk 7 ?_; refine CW.block ?_)) | refine OW.nil ?_ | refine PK.code_normal ?_ | fail | fail)
  refine CW.loop (fun i : Nat => [(0, .slice p c.length cap), (5, .slice p c.length cap), (6, .int .i64 c.length), (7, .int .i64 i)]) (fun i h' => h = h' ∧ i ≤ c.length ∧ ∀ x ∈ c.take i, 0 ≤ x ∧ x ≤ 1024) (fun i => c.length - i) 0 (by (repeat (first | exact trivial | refine ⟨rfl, ?_⟩))) ⟨rfl, Nat.zero_le _, by simp⟩ ?_
  rintro i _ ⟨rfl, hi, hall⟩
  by_cases hin : i < c.length
  · obtain ⟨y, hy⟩ : ∃ y, c[i]? = some y := ⟨_, List.getElem?_eq_getElem hin⟩
    rcases hs.cases with h2 | ⟨b, o, cap', h1, _, _⟩
    · subst h2; simp at hin
    simp only [Value.slice.injEq] at h1
    obtain ⟨rfl, _, rfl⟩ := h1
    have hc := hs.cel hy
    have hym := List.mem_of_getElem? hy
    repeat' (first | (refine St.d ?_; first | (refine dk 0 ?_; refine St.move rfl ?_) | (refine dk 2 ?_; first | refine St.load pg rfl rfl rfl (by (first | assumption | exact Blk.cel (by (repeat (first | assumption | exact New.blk (by assumption) | exact Upd.blk (by assumption) | (apply New.old; assumption) | (apply Upd.keep; assumption; (focus (first | assumption | exact Ne.symm (by assumption) | omega | (intro hne; simp only at hne; omega)))) | (apply Stp.blk0; assumption) | (apply Stp.blk1; assumption; (focus (first | assumption | exact Ne.symm (by assumption) | omega | (intro hne; simp only at hne; omega))))))) (by rfl) | exact Cels.fld (by assumption) (by rfl) | exact Cels.fld0 (by assumption) (by rfl) | (repeat (first | assumption | (apply New.oldc; assumption) | (apply Upd.keepc; assumption; (focus (first | assumption | exact Ne.symm (by assumption) | omega | (intro hne; simp only at hne; omega)))) | (apply Stp.cel0; assumption))))) (by first | exact List.not_mem_nil | assumption) rfl ?_ | refine St.loadS pg rfl rfl rfl (by first | assumption | exact Blk.cels0 (by (repeat (first | assumption | exact New.blk (by assumption) | exact Upd.blk (by assumption) | (apply New.old; assumption) | (apply Upd.keep; assumption; (focus (first | assumption | exact Ne.symm (by assumption) | omega | (intro hne; simp only at hne; omega)))) | (apply Stp.blk0; assumption) | (apply Stp.blk1; assumption; (focus (first | assumption | exact Ne.symm (by assumption) | omega | (intro hne; simp only at hne; omega)))))))) (by first | exact List.not_mem_nil | assumption) rfl rfl ?_ | fail) | (refine dk 1 ?_; refine St.assign rfl ?_) | (refine dk 6 ?_; first | refine St.pick_true rfl (by (first | rfl | assumption | exact decide_eq_true (by first | assumption | omega) | exact decide_eq_false (by first | assumption | exact not_not_intro (by assumption) | omega) | fail)) rfl ?_ | refine St.pick_false rfl (by (first | rfl | assumption | exact decide_eq_true (by first | assumption | omega) | exact decide_eq_false (by first | assumption | exact not_not_intro (by assumption) | omega) | fail)) rfl ?_ | fail) | (refine dk 14 ?_; refine St.lss rfl rfl ?_) | (refine dk 18 ?_; refine St.add rfl rfl (by omega) ?_) | (refine dk 10 ?_; first | refine St.indexAddr1 pg rfl rfl rfl rfl rfl rfl rfl (by first | omega | decide | exact Nat.succ_pos _ | (show 0 < _; omega)) ?_ | refine St.indexAddr pg rfl rfl rfl rfl rfl rfl (by first | omega | decide | exact Nat.succ_pos _ | (show 0 < _; omega)) ?_ | refine St.indexAddrA1 pg rfl rfl rfl rfl rfl rfl rfl (by first | omega | decide) ?_ | fail) | (refine dk 16 ?_; refine St.gtr rfl rfl ?_)) | (refine OW.d ?_; first | (refine dk 0 ?_; refine OW.step (gd_none rfl) rfl ?_) | (refine dk 1 ?_; first | refine OW.step (gd_yes rfl rfl rfl (by (first | rfl | assumption | exact decide_eq_true (by first | assumption | omega) | exact decide_eq_false (by first | assumption | exact not_not_intro (by assumption) | omega) | fail))) rfl ?_ | refine OW.pass (gd_no rfl rfl rfl (by (first | rfl | assumption | exact decide_eq_true (by first | assumption | omega) | exact decide_eq_false (by first | assumption | exact not_not_intro (by assumption) | omega) | fail))) rfl ?_ | refine OW.pass (gd_undef rfl rfl rfl) rfl ?_ | (refine OW.split_dnot rfl rfl rfl ?_ ?_ <;> intro _ <;> try (exfalso; omega)) | (refine OW.split_dec rfl rfl rfl ?_ ?_ <;> intro _ <;> try (exfalso; omega)) | (refine OW.split rfl rfl rfl ?_ ?_ <;> intro _) | fail)) | (refine CW.d ?_; first | (refine dk 0 ?_; refine CW.seq ?_) | (refine dk 1 ?_; refine CW.region ?_) | (refine dk 3 ?_; first | refine CW.cond_true rfl (by (first | rfl | assumption | exact decide_eq_true (by first | assumption | omega) | exact decide_eq_false (by first | assumption | exact not_not_intro (by assumption) | omega) | fail)) ?_ | refine CW.cond_false rfl (by (first | rfl | assumption | exact decide_eq_true (by first | assumption | omega) | exact decide_eq_false (by first | assumption | exact not_not_intro (by assumption) | omega) | fail)) ?_ | (refine CW.cond_dnot rfl ?_ ?_ <;> intro _ <;> try (exfalso; omega)) | (refine CW.cond_dec rfl ?_ ?_ <;> intro _ <;> try (exfalso; omega)) | (refine CW.cond rfl ?_ ?_ <;> intro _) | fail) | (refine dk 4 ?_; refine CW.skip ?_) | (refine dk 5 ?_; refine CW.ret ?_) | (refine dk 7 ?_; refine CW.block ?_)) | refine OW.nil ?_ | refine PK.code_normal ?_ | refine PK.blk_normal ?_ | refine PK.lp_normal ?_ | refine PK.code_ret ?_ | refine PK.blk_ret ?_ | refine PK.lp_ret ?_ | refine PK.nil_ret ?_ | fail | fail)
    all_goals first
      | (refine ⟨_, ResOK.one rfl, ?_, rfl⟩
         congr 1
         exact (decide_eq_false (fun hv => by have := hv.1 y hym; omega)).symm)
      | (refine ⟨i + 1, by (repeat (first | exact trivial | refine ⟨rfl, ?_⟩)), ⟨rfl, hin, fun x hx => ?_⟩, by omega⟩
         rw [List.take_add_one, hy] at hx
         rcases List.mem_append.1 hx with h1 | h1
         · exact hall x h1
         · simp at h1; subst h1; omega)
  · have : i = c.length := by omega
    subst this
    rw [List.take_length] at hall
    repeat' (first | (refine St.d ?_; first | (refine dk 0 ?_; refine St.move rfl ?_) | (refine dk 1 ?_; refine St.assign rfl ?_) | (refine dk 6 ?_; first | refine St.pick_true rfl (by (first | rfl | assumption | exact decide_eq_true (by first | assumption | omega) | exact decide_eq_false (by first | assumption | exact not_not_intro (by assumption) | omega) | fail)) rfl ?_ | refine St.pick_false rfl (by (first | rfl | assumption | exact decide_eq_true (by first | assumption | omega) | exact decide_eq_false (by first | assumption | exact not_not_intro (by assumption) | omega) | fail)) rfl ?_ | fail) | (refine dk 14 ?_; refine St.lss rfl rfl ?_) | (refine dk 11 ?_; refine St.len pg rfl rfl rfl ?_) | (refine dk 17 ?_; refine St.geq rfl rfl ?_) | (refine dk 15 ?_; refine St.leq rfl rfl ?_)) | (refine OW.d ?_; first | (refine dk 0 ?_; refine OW.step (gd_none rfl) rfl ?_) | (refine dk 1 ?_; first | refine OW.step (gd_yes rfl rfl rfl (by (first | rfl | assumption | exact decide_eq_true (by first | assumption | omega) | exact decide_eq_false (by first | assumption | exact not_not_intro (by assumption) | omega) | fail))) rfl ?_ | refine OW.pass (gd_no rfl rfl rfl (by (first | rfl | assumption | exact decide_eq_true (by first | assumption | omega) | exact decide_eq_false (by first | assumption | exact not_not_intro (by assumption) | omega) | fail))) rfl ?_ | refine OW.pass (gd_undef rfl rfl rfl) rfl ?_ | (refine OW.split_dnot rfl rfl rfl ?_ ?_ <;> intro _ <;> try (exfalso; omega)) | (refine OW.split_dec rfl rfl rfl ?_ ?_ <;> intro _ <;> try (exfalso; omega)) | (refine OW.split rfl rfl rfl ?_ ?_ <;> intro _) | fail)) | (refine CW.d ?_; first | (refine dk 0 ?_; refine CW.seq ?_) | (refine dk 1 ?_; refine CW.region ?_) | (refine dk 3 ?_; first | refine CW.cond_true rfl (by (first | rfl | assumption | exact decide_eq_true (by first | assumption | omega) | exact decide_eq_false (by first | assumption | exact not_not_intro (by assumption) | omega) | fail)) ?_ | refine CW.cond_false rfl (by (first | rfl | assumption | exact decide_eq_true (by first | assumption | omega) | exact decide_eq_false (by first | assumption | exact not_not_intro (by assumption) | omega) | fail)) ?_ | (refine CW.cond_dnot rfl ?_ ?_ <;> intro _ <;> try (exfalso; omega)) | (refine CW.cond_dec rfl ?_ ?_ <;> intro _ <;> try (exfalso; omega)) | (refine CW.cond rfl ?_ ?_ <;> intro _) | fail) | (refine dk 5 ?_; refine CW.ret ?_) | (refine dk 6 ?_; refine CW.exit ?_)) | refine OW.nil ?_ | refine PK.code_normal ?_ | refine PK.code_exit ?_ | refine PK.lp_exit ?_ | refine PK.blk_exit ?_ | refine PK.nil_ret ?_ | fail | fail)
    all_goals
      refine ⟨_, ResOK.one rfl, ?_, rfl⟩
      congr 1
      first
        | (exact decide_eq_decide.2 ⟨fun h => ⟨hall, by omega, by omega⟩, fun h => by have := h.2; omega⟩)
        | (exact (decide_eq_false (fun hv => by have := hv.2; omega)).symm)

theorem clone_any {h : Heap} {v : Value} {c : List Int} (hs : IntS h v c) (hl : c.length ≤ 1000000) :
    CallsH Try.prog 68 #[v] h fun r h' => Own h' r 3 1 c.length (intsV c) ∧ Stp [] h h' ∧ ∀ b ∈ blkOf r, h.size ≤ b := by
  obtain ⟨p, cap, rfl⟩ := hs.sl.shape
  refine CallsH.of (l := [_]) Try.func68 rfl Try.ntmps68 Try.results68 rfl ?_
  cases p with
  | none =>
    have h0 : c = [] := by
      rcases hs.cases with h2 | ⟨b, o, cap', h1, _, _⟩
      · exact h2
      · cases h1
    subst h0
    repeat' (first | (refine St.d ?_; first | (refine dk 0 ?_; refine St.move rfl ?_) | (refine dk 1 ?_; refine St.assign rfl ?_) | (refine dk 12 ?_; first | refine St.eql rfl rfl ?_ | refine St.eql_pnil pg rfl rfl rfl rfl ?_ | refine St.eql_snil pg rfl rfl rfl rfl ?_ | refine St.beql pg rfl rfl rfl rfl ?_ | fail)) | (refine OW.d ?_; refine dk 0 ?_; refine OW.step (gd_none rfl) rfl ?_) | (refine CW.d ?_; first | (refine dk 0 ?_; refine CW.seq ?_) | (refine dk 1 ?_; refine CW.region ?_) | (refine dk 3 ?_; first | refine CW.cond_true rfl (by (first | rfl | assumption | exact decide_eq_true (by first | assumption | omega) | exact decide_eq_false (by first | assumption | exact not_not_intro (by assumption) | omega) | fail)) ?_ | refine CW.cond_false rfl (by (first | rfl | assumption | exact decide_eq_true (by first | assumption | omega) | exact decide_eq_false (by first | assumption | exact not_not_intro (by assumption) | omega) | fail)) ?_ | (refine CW.cond_dnot rfl ?_ ?_ <;> intro _ <;> try (exfalso; omega)) | (refine CW.cond_dec rfl ?_ ?_ <;> intro _ <;> try (exfalso; omega)) | (refine CW.cond rfl ?_ ?_ <;> intro _) | fail) | (refine dk 5 ?_; refine CW.ret ?_)) | refine OW.nil ?_ | refine PK.code_normal ?_ | refine PK.code_ret ?_ | refine PK.nil_ret ?_ | fail | fail)
    exact ⟨_, ResOK.one rfl, Own.nil, Stp.refl _, by simp [blkOf]⟩
  | some a =>
    repeat' (first | (refine St.d ?_; first | (refine dk 0 ?_; refine St.move rfl ?_) | (refine dk 1 ?_; refine St.assign rfl ?_) | (refine dk 12 ?_; first | refine St.eql rfl rfl ?_ | refine St.eql_pnil pg rfl rfl rfl rfl ?_ | refine St.eql_snil pg rfl rfl rfl rfl ?_ | refine St.beql pg rfl rfl rfl rfl ?_ | fail) | (refine dk 29 ?_; refine St.buildSlice pg rfl rfl rfl rfl rfl rfl rfl (by (repeat (first | exact Fill.nil | (apply Fill.one; rfl; rfl; (focus (first | exact SetL.set (by assumption) | (repeat (first | exact SetL.z | apply SetL.s))))) | (apply Fill.agg; rfl; rfl; (focus (repeat (first | exact SetR.z | (apply SetR.c; (focus (first | exact SetL.set (by assumption) | (repeat (first | exact SetL.z | apply SetL.s)))))))))))) rfl ?_; intro _ _ _ _ _)) | (refine OW.d ?_; refine dk 0 ?_; refine OW.step (gd_none rfl) rfl ?_) | (refine CW.d ?_; first | (refine dk 0 ?_; refine CW.seq ?_) | (refine dk 1 ?_; refine CW.region ?_) | (refine dk 3 ?_; first | refine CW.cond_true rfl (by (first | rfl | assumption | exact decide_eq_true (by first | assumption | omega) | exact decide_eq_false (by first | assumption | exact not_not_intro (by assumption) | omega) | fail)) ?_ | refine CW.cond_false rfl (by (first | rfl | assumption | exact decide_eq_true (by first | assumption | omega) | exact decide_eq_false (by first | assumption | exact not_not_intro (by assumption) | omega) | fail)) ?_ | (refine CW.cond_dnot rfl ?_ ?_ <;> intro _ <;> try (exfalso; omega)) | (refine CW.cond_dec rfl ?_ ?_ <;> intro _ <;> try (exfalso; omega)) | (refine CW.cond rfl ?_ ?_ <;> intro _) | fail) | (refine dk 4 ?_; refine CW.skip ?_)) | refine OW.nil ?_ | refine PK.code_normal ?_ | fail | fail)
    rename_i nb h1 hn hnb hsz
    refine St.d ?_
    refine dk 25 ?_
    refine St.append pg rfl rfl rfl rfl rfl rfl (len := 0) (vs := []) ⟨(Nat.zero_mul _).symm, .inr ⟨nb, 0, 0, _, rfl, hn.blk, by rw [Nat.zero_mul]; exact Nat.zero_le _, Nat.le_refl _, by rw [Nat.zero_mul, List.take_zero]⟩⟩ (hs.stp (hn.stp (fp := [])) (by simp)).sl (by rw [intsV_length]; exact (Nat.mul_one _).symm) intsV_one ?_ ?_ rfl ?_
    · show (_ + _) * 8 ≤ _
      omega
    · omega
    intro v2 h2 happ
    have hst : Stp [] h h2 := Stp.stp happ.stp hn.stp (fun b hb => .inr (by simp [blkOf] at hb; omega))
    repeat' (first | (refine St.d ?_; first | (refine dk 1 ?_; refine St.assign rfl ?_)) | (refine OW.d ?_; refine dk 0 ?_; refine OW.step (gd_none rfl) rfl ?_) | (refine CW.d ?_; first | (refine dk 5 ?_; refine CW.ret ?_)) | refine OW.nil ?_ | refine PK.code_normal ?_ | refine PK.nil_ret ?_ | fail | fail)
    refine ⟨_, ResOK.one rfl, by have := happ.own; rw [Nat.zero_add, List.nil_append] at this; exact this, hst, fun b hb => ?_⟩
    rcases happ.blk with h8 | h8
    · rw [h8] at hb; simp [blkOf] at hb; omega
    · have := h8 b hb; omega

theorem zero_any {h : Heap} {n : Nat} (hn : 1 ≤ n ∧ n ≤ 5) :
    CallsH Try.prog 56 #[.int .i64 n] h fun r h' => Own h' r 3 1 n (intsV (List.replicate n 0)) ∧ Stp [] h h' ∧ ∀ b ∈ blkOf r, h.size ≤ b := by
  refine CallsH.of (l := [_]) Try.func56 rfl Try.ntmps56 Try.results56 rfl ?_
  repeat' (first | (refine St.d ?_; first | (refine dk 0 ?_; refine St.move rfl ?_) | (refine dk 1 ?_; refine St.assign rfl ?_) | (refine dk 6 ?_; first | refine St.pick_true rfl (by (first | rfl | assumption | exact decide_eq_true (by first | assumption | omega) | exact decide_eq_false (by first | assumption | exact not_not_intro (by assumption) | omega) | fail)) rfl ?_ | refine St.pick_false rfl (by (first | rfl | assumption | exact decide_eq_true (by first | assumption | omega) | exact decide_eq_false (by first | assumption | exact not_not_intro (by assumption) | omega) | fail)) rfl ?_ | fail) | (refine dk 14 ?_; refine St.lss rfl rfl ?_) | (refine dk 16 ?_; refine St.gtr rfl rfl ?_) | (refine dk 33 ?_; refine St.makeS pg rfl rfl rfl rfl rfl rfl rfl rfl rfl rfl (by omega) (by omega) rfl ?_; intro _ _ _ _ _)) | (refine OW.d ?_; first | (refine dk 0 ?_; refine OW.step (gd_none rfl) rfl ?_) | (refine dk 1 ?_; first | refine OW.step (gd_yes rfl rfl rfl (by (first | rfl | assumption | exact decide_eq_true (by first | assumption | omega) | exact decide_eq_false (by first | assumption | exact not_not_intro (by assumption) | omega) | fail))) rfl ?_ | refine OW.pass (gd_no rfl rfl rfl (by (first | rfl | assumption | exact decide_eq_true (by first | assumption | omega) | exact decide_eq_false (by first | assumption | exact not_not_intro (by assumption) | omega) | fail))) rfl ?_ | refine OW.pass (gd_undef rfl rfl rfl) rfl ?_ | (refine OW.split_dnot rfl rfl rfl ?_ ?_ <;> intro _ <;> try (exfalso; omega)) | (refine OW.split_dec rfl rfl rfl ?_ ?_ <;> intro _ <;> try (exfalso; omega)) | (refine OW.split rfl rfl rfl ?_ ?_ <;> intro _) | fail)) | (refine CW.d ?_; first | (refine dk 0 ?_; refine CW.seq ?_) | (refine dk 1 ?_; refine CW.region ?_) | (refine dk 3 ?_; first | refine CW.cond_true rfl (by (first | rfl | assumption | exact decide_eq_true (by first | assumption | omega) | exact decide_eq_false (by first | assumption | exact not_not_intro (by assumption) | omega) | fail)) ?_ | refine CW.cond_false rfl (by (first | rfl | assumption | exact decide_eq_true (by first | assumption | omega) | exact decide_eq_false (by first | assumption | exact not_not_intro (by assumption) | omega) | fail)) ?_ | (refine CW.cond_dnot rfl ?_ ?_ <;> intro _ <;> try (exfalso; omega)) | (refine CW.cond_dec rfl ?_ ?_ <;> intro _ <;> try (exfalso; omega)) | (refine CW.cond rfl ?_ ?_ <;> intro _) | fail) | (refine dk 4 ?_; refine CW.skip ?_) | (refine dk 5 ?_; refine CW.ret ?_)) | refine OW.nil ?_ | refine PK.code_normal ?_ | refine PK.nil_ret ?_ | fail | fail)
  rename_i nb h1 hn1 hnb hsz
  have e : zeroL [.int .i64 0] n = intsV (List.replicate n 0) := by
    have : ∀ n, zeroL [.int .i64 0] n = intsV (List.replicate n 0) := by
      intro n
      induction n with
      | zero => rfl
      | succ n ih => rw [zeroL, ih]; rfl
    exact this n
  have hb : Blk h1 nb 3 (zeroL [.int .i64 0] n) := hn1.blk
  rw [e] at hb
  exact ⟨_, ResOK.one rfl, .ofBlk hb (by simp [intsV]), hn1.stp, by simp [blkOf]; omega⟩
theorem zero_bad {h : Heap} {n : Int} (hn : ¬ (1 ≤ n ∧ n ≤ 5)) :
    CallsH Try.prog 56 #[.int .i64 n] h fun r h' => r = .slice none 0 0 ∧ h' = h := by
  refine CallsH.of (l := [_]) Try.func56 rfl Try.ntmps56 Try.results56 rfl ?_
  repeat' (first | (refine St.d ?_; first | (refine dk 0 ?_; refine St.move rfl ?_) | (refine dk 1 ?_; refine St.assign rfl ?_) | (refine dk 6 ?_; first | refine St.pick_true rfl (by (first | rfl | assumption | exact decide_eq_true (by first | assumption | omega) | exact decide_eq_false (by first | assumption | exact not_not_intro (by assumption) | omega) | fail)) rfl ?_ | refine St.pick_false rfl (by (first | rfl | assumption | exact decide_eq_true (by first | assumption | omega) | exact decide_eq_false (by first | assumption | exact not_not_intro (by assumption) | omega) | fail)) rfl ?_ | fail) | (refine dk 14 ?_; refine St.lss rfl rfl ?_) | (refine dk 16 ?_; refine St.gtr rfl rfl ?_)) | (refine OW.d ?_; first | (refine dk 0 ?_; refine OW.step (gd_none rfl) rfl ?_) | (refine dk 1 ?_; first | refine OW.step (gd_yes rfl rfl rfl (by (first | rfl | assumption | exact decide_eq_true (by first | assumption | omega) | exact decide_eq_false (by first | assumption | exact not_not_intro (by assumption) | omega) | fail))) rfl ?_ | refine OW.pass (gd_no rfl rfl rfl (by (first | rfl | assumption | exact decide_eq_true (by first | assumption | omega) | exact decide_eq_false (by first | assumption | exact not_not_intro (by assumption) | omega) | fail))) rfl ?_ | refine OW.pass (gd_undef rfl rfl rfl) rfl ?_ | (refine OW.split_dnot rfl rfl rfl ?_ ?_ <;> intro _ <;> try (exfalso; omega)) | (refine OW.split_dec rfl rfl rfl ?_ ?_ <;> intro _ <;> try (exfalso; omega)) | (refine OW.split rfl rfl rfl ?_ ?_ <;> intro _) | fail)) | (refine CW.d ?_; first | (refine dk 0 ?_; refine CW.seq ?_) | (refine dk 1 ?_; refine CW.region ?_) | (refine dk 3 ?_; first | refine CW.cond_true rfl (by (first | rfl | assumption | exact decide_eq_true (by first | assumption | omega) | exact decide_eq_false (by first | assumption | exact not_not_intro (by assumption) | omega) | fail)) ?_ | refine CW.cond_false rfl (by (first | rfl | assumption | exact decide_eq_true (by first | assumption | omega) | exact decide_eq_false (by first | assumption | exact not_not_intro (by assumption) | omega) | fail)) ?_ | (refine CW.cond_dnot rfl ?_ ?_ <;> intro _ <;> try (exfalso; omega)) | (refine CW.cond_dec rfl ?_ ?_ <;> intro _ <;> try (exfalso; omega)) | (refine CW.cond rfl ?_ ?_ <;> intro _) | fail) | (refine dk 5 ?_; refine CW.ret ?_)) | refine OW.nil ?_ | refine PK.code_normal ?_ | refine PK.code_ret ?_ | refine PK.nil_ret ?_ | fail | fail)
  all_goals first | exact ⟨_, ResOK.one rfl, rfl, rfl⟩ | (exfalso; omega)

/-! ### Lists of clocks -/
abbrev clks : Rp (List (List Int)) := (Rp.int .i64).slice.slice
theorem intsR1 {h : Heap} {F : Nat → Prop} {cs : List Value} {l : List Int} (hr : (Rp.int .i64).slice.R h F cs l) : ∃ v, cs = [v] ∧ IntS h v l ∧ (∀ b ∈ rdOf v, F b) ∧ l.length ≤ 9223372036854775807 ∧ ∀ x ∈ l, -9223372036854775808 ≤ x ∧ x ≤ 9223372036854775807 := by
  have hlen := sliceR_len hr
  obtain ⟨v, rfl, hb, _, rows, hs, hl, hr⟩ := hr
  have hx : ∀ (rows : List (List Value)) (l : List Int), rowsR (Rp.int .i64) h F rows l → rows.flatten = intsV l ∧ ∀ x ∈ l, -9223372036854775808 ≤ x ∧ x ≤ 9223372036854775807 := by
    intro rows
    induction rows with
    | nil => intro l hl; have := hl.1; simp at this; rw [List.eq_nil_of_length_eq_zero this.symm]; simp [intsV]
    | cons r rs ih =>
      intro l hl
      match l, hl with
      | [], hl => have := hl.1; simp at this
      | x :: xs, hl =>
        obtain ⟨h1, h2⟩ := ih xs ⟨by have := hl.1; simpa using this, fun i row a hi ha => hl.2 (i + 1) row a (by simpa using hi) (by simpa using ha)⟩
        obtain ⟨rfl, h3⟩ := hl.2 0 r x rfl rfl
        refine ⟨by simp [intsV, h1] , fun y hy => ?_⟩
        rcases List.mem_cons.1 hy with rfl | hy
        · exact wf_i64.1 h3
        · exact h2 y hy
  obtain ⟨h1, h2⟩ := hx rows l ⟨hl, hr⟩
  exact ⟨v, rfl, ⟨h1 ▸ hs⟩, hb, hlen, h2⟩
theorem clk_at {h : Heap} {F : Nat → Prop} {b o len cap : Nat} {l : List (List Int)} (hs : clks.R h F [.slice (some ⟨b, o, none⟩) len cap] l) {i : Nat} {c : List Int} (hi : l[i]? = some c) :
    ∃ v, Cel h ⟨b, o + i, none⟩ v ∧ IntS h v c ∧ (∀ b ∈ rdOf v, F b) ∧ c.length ≤ 9223372036854775807 := by
  obtain ⟨row, hr, hc⟩ := sliceR_cels hs hi
  obtain ⟨v, rfl, h1, h2, h3, _⟩ := intsR1 hr
  refine ⟨v, ?_, h1, h2, h3⟩
  have := hc.cell (j := 0) rfl
  simpa [Rp.slice] using this
theorem clks_val {h : Heap} {F : Nat → Prop} {len cap : Nat} {p : Option Addr} {l : List (List Int)} (hs : clks.R h F [.slice p len cap] l) (hi : 0 < l.length) : ∃ b o, p = some ⟨b, o, none⟩ ∧ b < h.size ∧ F b ∧ len = l.length ∧ l.length ≤ cap := by
  rcases sliceR_cases hs with ⟨h1, _⟩ | ⟨b, o, cap', h1, h2, _, h3, h4⟩
  · rw [h1] at hi; simp at hi
  · simp only [List.cons.injEq, Value.slice.injEq, and_true] at h1
    exact ⟨b, o, h1.1, h3, h4, h1.2.1, by omega⟩

def alk (l : List (List Int)) : Prop := 0 < l.length ∧ ∀ c ∈ l, vld c ∧ c.length = (l.headD []).length
instance (l : List (List Int)) : Decidable (alk l) := inferInstanceAs (Decidable (_ ∧ _))
theorem alike_any {h : Heap} {F : Nat → Prop} {v : Value} {l : List (List Int)} (hs : clks.R h F [v] l) :
    CallsH Try.prog 93 #[v] h fun r h' => r = .bool (decide (alk l)) ∧ h' = h := by
  have hlm := sliceR_len hs
  obtain ⟨p, cap, he⟩ := sliceR_shape hs
  simp only [List.cons.injEq, and_true] at he
  subst he
  refine CallsH.of (l := [_]) Try.func93 rfl Try.ntmps93 Try.results93 rfl ?_
  repeat' (first | (refine St.d ?_; first | (refine dk 0 ?_; refine St.move rfl ?_) | (refine dk 1 ?_; refine St.assign rfl ?_) | (refine dk 11 ?_; refine St.len pg rfl rfl rfl ?_)) | (refine OW.d ?_; first | (refine dk 0 ?_; refine OW.step (gd_none rfl) rfl ?_) | (refine dk 1 ?_; first | refine OW.step (gd_yes rfl rfl rfl (by (first | rfl | assumption | exact decide_eq_true (by first | assumption | omega) | exact decide_eq_false (by first | assumption | exact not_not_intro (by assumption) | omega) | fail))) rfl ?_ | refine OW.pass (gd_no rfl rfl rfl (by (first | rfl | assumption | exact decide_eq_true (by first | assumption | omega) | exact decide_eq_false (by first | assumption | exact not_not_intro (by assumption) | omega) | fail))) rfl ?_ | refine OW.pass (gd_undef rfl rfl rfl) rfl ?_ | (refine OW.split_dnot rfl rfl rfl ?_ ?_ <;> intro _ <;> try (exfalso; omega)) | (refine OW.split_dec rfl rfl rfl ?_ ?_ <;> intro _ <;> try (exfalso; omega)) | (refine OW.split rfl rfl rfl ?_ ?_ <;> intro _) | fail)) | (refine CW.d ?_; first | (refine dk 0 ?_; refine CW.seq ?_) | (refine dk 1 ?_; refine CW.region ?_) | (refine dk 7 ?_; refine CW.block ?_)) | refine OW.nil ?_ | refine PK.code_normal ?_ | fail | fail)
  refine CW.loop (fun i : Nat => [(0, .slice p l.length cap), (5, .slice p l.length cap), (6, .int .i64 l.length), (7, .int .i64 i)]) (fun i h' => h = h' ∧ i ≤ l.length ∧ ∀ c ∈ l.take i, vld c ∧ c.length = (l.headD []).length) (fun i => l.length - i) 0 (by (repeat (first | exact trivial | refine ⟨rfl, ?_⟩))) ⟨rfl, Nat.zero_le _, by simp⟩ ?_
  rintro i _ ⟨rfl, hi, hall⟩
  by_cases hin : i < l.length
  · obtain ⟨c, hc⟩ : ∃ c, l[i]? = some c := ⟨_, List.getElem?_eq_getElem hin⟩
    obtain ⟨c0, hc0⟩ : ∃ c, l[0]? = some c := ⟨_, List.getElem?_eq_getElem (by omega)⟩
    have hh0 : l.headD [] = c0 := by
      cases l with
      | nil => simp at hin
      | cons a l => simp at hc0; simp [hc0]
    obtain ⟨b, o, rfl, _, _, _, _⟩ := clks_val hs (by omega)
    obtain ⟨v, hcel, hv, _, hvl⟩ := clk_at hs hc
    obtain ⟨v0, hcel0, hv0, _, hvl0⟩ := clk_at hs hc0
    obtain ⟨p1, cap1, rfl⟩ := hv.sl.shape
    obtain ⟨p2, cap2, rfl⟩ := hv0.sl.shape
    have hcm := List.mem_of_getElem? hc
    repeat' (first | (refine St.d ?_; first | (refine dk 0 ?_; refine St.move rfl ?_) | (refine dk 2 ?_; first | refine St.load pg rfl rfl rfl (by (first | assumption | exact Blk.cel (by (repeat (first | assumption | exact New.blk (by assumption) | exact Upd.blk (by assumption) | (apply New.old; assumption) | (apply Upd.keep; assumption; (focus (first | assumption | exact Ne.symm (by assumption) | omega | (intro hne; simp only at hne; omega)))) | (apply Stp.blk0; assumption) | (apply Stp.blk1; assumption; (focus (first | assumption | exact Ne.symm (by assumption) | omega | (intro hne; simp only at hne; omega))))))) (by rfl) | exact Cels.fld (by assumption) (by rfl) | exact Cels.fld0 (by assumption) (by rfl) | (repeat (first | assumption | (apply New.oldc; assumption) | (apply Upd.keepc; assumption; (focus (first | assumption | exact Ne.symm (by assumption) | omega | (intro hne; simp only at hne; omega)))) | (apply Stp.cel0; assumption))))) (by first | exact List.not_mem_nil | assumption) rfl ?_ | refine St.loadS pg rfl rfl rfl (by first | assumption | exact Blk.cels0 (by (repeat (first | assumption | exact New.blk (by assumption) | exact Upd.blk (by assumption) | (apply New.old; assumption) | (apply Upd.keep; assumption; (focus (first | assumption | exact Ne.symm (by assumption) | omega | (intro hne; simp only at hne; omega)))) | (apply Stp.blk0; assumption) | (apply Stp.blk1; assumption; (focus (first | assumption | exact Ne.symm (by assumption) | omega | (intro hne; simp only at hne; omega)))))))) (by first | exact List.not_mem_nil | assumption) rfl rfl ?_ | fail) | (refine dk 1 ?_; refine St.assign rfl ?_) | (refine dk 23 ?_; first | refine St.call pg rfl rfl rfl ?_ | refine St.call0 pg rfl rfl rfl ?_ | refine St.callX pg rfl rfl rfl ?_ | fail) | (refine dk 14 ?_; refine St.lss rfl rfl ?_) | (refine dk 10 ?_; first | refine St.indexAddr1 pg rfl rfl rfl rfl rfl rfl rfl (by first | omega | decide | exact Nat.succ_pos _ | (show 0 < _; omega)) ?_ | refine St.indexAddr pg rfl rfl rfl rfl rfl rfl (by first | omega | decide | exact Nat.succ_pos _ | (show 0 < _; omega)) ?_ | refine St.indexAddrA1 pg rfl rfl rfl rfl rfl rfl rfl (by first | omega | decide) ?_ | fail)) | (refine OW.d ?_; first | (refine dk 0 ?_; refine OW.step (gd_none rfl) rfl ?_) | (refine dk 1 ?_; first | refine OW.step (gd_yes rfl rfl rfl (by (first | rfl | assumption | exact decide_eq_true (by first | assumption | omega) | exact decide_eq_false (by first | assumption | exact not_not_intro (by assumption) | omega) | fail))) rfl ?_ | refine OW.pass (gd_no rfl rfl rfl (by (first | rfl | assumption | exact decide_eq_true (by first | assumption | omega) | exact decide_eq_false (by first | assumption | exact not_not_intro (by assumption) | omega) | fail))) rfl ?_ | refine OW.pass (gd_undef rfl rfl rfl) rfl ?_ | (refine OW.split_dnot rfl rfl rfl ?_ ?_ <;> intro _ <;> try (exfalso; omega)) | (refine OW.split_dec rfl rfl rfl ?_ ?_ <;> intro _ <;> try (exfalso; omega)) | (refine OW.split rfl rfl rfl ?_ ?_ <;> intro _) | fail)) | (refine CW.d ?_; first | (refine dk 0 ?_; refine CW.seq ?_) | (refine dk 1 ?_; refine CW.region ?_) | (refine dk 3 ?_; first | refine CW.cond_true rfl (by (first | rfl | assumption | exact decide_eq_true (by first | assumption | omega) | exact decide_eq_false (by first | assumption | exact not_not_intro (by assumption) | omega) | fail)) ?_ | refine CW.cond_false rfl (by (first | rfl | assumption | exact decide_eq_true (by first | assumption | omega) | exact decide_eq_false (by first | assumption | exact not_not_intro (by assumption) | omega) | fail)) ?_ | (refine CW.cond_dnot rfl ?_ ?_ <;> intro _ <;> try (exfalso; omega)) | (refine CW.cond_dec rfl ?_ ?_ <;> intro _ <;> try (exfalso; omega)) | (refine CW.cond rfl ?_ ?_ <;> intro _) | fail) | (refine dk 4 ?_; refine CW.skip ?_) | (refine dk 7 ?_; refine CW.block ?_)) | refine OW.nil ?_ | refine PK.code_normal ?_ | fail | fail)
    refine (vld_any hv hvl).same ?_
    repeat' (first | (refine St.d ?_; first | (refine dk 0 ?_; refine St.move rfl ?_) | (refine dk 2 ?_; first | refine St.load pg rfl rfl rfl (by (first | assumption | exact Blk.cel (by (repeat (first | assumption | exact New.blk (by assumption) | exact Upd.blk (by assumption) | (apply New.old; assumption) | (apply Upd.keep; assumption; (focus (first | assumption | exact Ne.symm (by assumption) | omega | (intro hne; simp only at hne; omega)))) | (apply Stp.blk0; assumption) | (apply Stp.blk1; assumption; (focus (first | assumption | exact Ne.symm (by assumption) | omega | (intro hne; simp only at hne; omega))))))) (by rfl) | exact Cels.fld (by assumption) (by rfl) | exact Cels.fld0 (by assumption) (by rfl) | (repeat (first | assumption | (apply New.oldc; assumption) | (apply Upd.keepc; assumption; (focus (first | assumption | exact Ne.symm (by assumption) | omega | (intro hne; simp only at hne; omega)))) | (apply Stp.cel0; assumption))))) (by first | exact List.not_mem_nil | assumption) rfl ?_ | refine St.loadS pg rfl rfl rfl (by first | assumption | exact Blk.cels0 (by (repeat (first | assumption | exact New.blk (by assumption) | exact Upd.blk (by assumption) | (apply New.old; assumption) | (apply Upd.keep; assumption; (focus (first | assumption | exact Ne.symm (by assumption) | omega | (intro hne; simp only at hne; omega)))) | (apply Stp.blk0; assumption) | (apply Stp.blk1; assumption; (focus (first | assumption | exact Ne.symm (by assumption) | omega | (intro hne; simp only at hne; omega)))))))) (by first | exact List.not_mem_nil | assumption) rfl rfl ?_ | fail) | (refine dk 1 ?_; refine St.assign rfl ?_) | (refine dk 6 ?_; first | refine St.pick_true rfl (by (first | rfl | assumption | exact decide_eq_true (by first | assumption | omega) | exact decide_eq_false (by first | assumption | exact not_not_intro (by assumption) | omega) | fail)) rfl ?_ | refine St.pick_false rfl (by (first | rfl | assumption | exact decide_eq_true (by first | assumption | omega) | exact decide_eq_false (by first | assumption | exact not_not_intro (by assumption) | omega) | fail)) rfl ?_ | fail) | (refine dk 13 ?_; first | refine St.neq rfl rfl ?_ | refine St.neq_pnil pg rfl rfl rfl rfl ?_ | refine St.bneq pg rfl rfl rfl rfl ?_ | fail) | (refine dk 18 ?_; refine St.add rfl rfl (by omega) ?_) | (refine dk 10 ?_; first | refine St.indexAddr1 pg rfl rfl rfl rfl rfl rfl rfl (by first | omega | decide | exact Nat.succ_pos _ | (show 0 < _; omega)) ?_ | refine St.indexAddr pg rfl rfl rfl rfl rfl rfl (by first | omega | decide | exact Nat.succ_pos _ | (show 0 < _; omega)) ?_ | refine St.indexAddrA1 pg rfl rfl rfl rfl rfl rfl rfl (by first | omega | decide) ?_ | fail) | (refine dk 11 ?_; refine St.len pg rfl rfl rfl ?_) | (refine dk 7 ?_; first | refine St.not_dec rfl ?_ | refine St.not rfl ?_ | fail)) | (refine OW.d ?_; first | (refine dk 0 ?_; refine OW.step (gd_none rfl) rfl ?_) | (refine dk 1 ?_; first | refine OW.step (gd_yes rfl rfl rfl (by (first | rfl | assumption | exact decide_eq_true (by first | assumption | omega) | exact decide_eq_false (by first | assumption | exact not_not_intro (by assumption) | omega) | fail))) rfl ?_ | refine OW.pass (gd_no rfl rfl rfl (by (first | rfl | assumption | exact decide_eq_true (by first | assumption | omega) | exact decide_eq_false (by first | assumption | exact not_not_intro (by assumption) | omega) | fail))) rfl ?_ | refine OW.pass (gd_undef rfl rfl rfl) rfl ?_ | (refine OW.split_dnot rfl rfl rfl ?_ ?_ <;> intro _ <;> try (exfalso; omega)) | (refine OW.split_dec rfl rfl rfl ?_ ?_ <;> intro _ <;> try (exfalso; omega)) | (refine OW.split rfl rfl rfl ?_ ?_ <;> intro _) | fail)) | (refine CW.d ?_; first | (refine dk 0 ?_; refine CW.seq ?_) | (refine dk 1 ?_; refine CW.region ?_) | (refine dk 3 ?_; first | refine CW.cond_true rfl (by (first | rfl | assumption | exact decide_eq_true (by first | assumption | omega) | exact decide_eq_false (by first | assumption | exact not_not_intro (by assumption) | omega) | fail)) ?_ | refine CW.cond_false rfl (by (first | rfl | assumption | exact decide_eq_true (by first | assumption | omega) | exact decide_eq_false (by first | assumption | exact not_not_intro (by assumption) | omega) | fail)) ?_ | (refine CW.cond_dnot rfl ?_ ?_ <;> intro _ <;> try (exfalso; omega)) | (refine CW.cond_dec rfl ?_ ?_ <;> intro _ <;> try (exfalso; omega)) | (refine CW.cond rfl ?_ ?_ <;> intro _) | fail) | (refine dk 4 ?_; refine CW.skip ?_) | (refine dk 5 ?_; refine CW.ret ?_)) | refine OW.nil ?_ | refine PK.code_normal ?_ | refine PK.blk_normal ?_ | refine PK.lp_normal ?_ | refine PK.code_ret ?_ | refine PK.blk_ret ?_ | refine PK.lp_ret ?_ | refine PK.nil_ret ?_ | fail | fail)
    all_goals first
      | (refine ⟨_, ResOK.one rfl, ?_, rfl⟩
         congr 1
         refine (decide_eq_false (fun hv => ?_)).symm
         have h3 := hv.2 c hcm
         rw [hh0] at h3
         first
           | exact absurd h3.1 (by assumption)
           | (have := h3.2; omega))
      | (refine ⟨i + 1, by (repeat (first | exact trivial | refine ⟨rfl, ?_⟩)), ⟨rfl, hin, fun x hx => ?_⟩, by omega⟩
         rw [List.take_add_one, hc] at hx
         rcases List.mem_append.1 hx with h1 | h1
         · exact hall x h1
         · simp at h1; subst h1; exact ⟨by assumption, by rw [hh0]; omega⟩)
  · have : i = l.length := by omega
    subst this
    rw [List.take_length] at hall
    repeat' (first | (refine St.d ?_; first | (refine dk 0 ?_; refine St.move rfl ?_) | (refine dk 1 ?_; refine St.assign rfl ?_) | (refine dk 14 ?_; refine St.lss rfl rfl ?_) | (refine dk 11 ?_; refine St.len pg rfl rfl rfl ?_) | (refine dk 16 ?_; refine St.gtr rfl rfl ?_)) | (refine OW.d ?_; first | (refine dk 0 ?_; refine OW.step (gd_none rfl) rfl ?_) | (refine dk 1 ?_; first | refine OW.step (gd_yes rfl rfl rfl (by (first | rfl | assumption | exact decide_eq_true (by first | assumption | omega) | exact decide_eq_false (by first | assumption | exact not_not_intro (by assumption) | omega) | fail))) rfl ?_ | refine OW.pass (gd_no rfl rfl rfl (by (first | rfl | assumption | exact decide_eq_true (by first | assumption | omega) | exact decide_eq_false (by first | assumption | exact not_not_intro (by assumption) | omega) | fail))) rfl ?_ | refine OW.pass (gd_undef rfl rfl rfl) rfl ?_ | (refine OW.split_dnot rfl rfl rfl ?_ ?_ <;> intro _ <;> try (exfalso; omega)) | (refine OW.split_dec rfl rfl rfl ?_ ?_ <;> intro _ <;> try (exfalso; omega)) | (refine OW.split rfl rfl rfl ?_ ?_ <;> intro _) | fail)) | (refine CW.d ?_; first | (refine dk 0 ?_; refine CW.seq ?_) | (refine dk 1 ?_; refine CW.region ?_) | (refine dk 3 ?_; first | refine CW.cond_true rfl (by (first | rfl | assumption | exact decide_eq_true (by first | assumption | omega) | exact decide_eq_false (by first | assumption | exact not_not_intro (by assumption) | omega) | fail)) ?_ | refine CW.cond_false rfl (by (first | rfl | assumption | exact decide_eq_true (by first | assumption | omega) | exact decide_eq_false (by first | assumption | exact not_not_intro (by assumption) | omega) | fail)) ?_ | (refine CW.cond_dnot rfl ?_ ?_ <;> intro _ <;> try (exfalso; omega)) | (refine CW.cond_dec rfl ?_ ?_ <;> intro _ <;> try (exfalso; omega)) | (refine CW.cond rfl ?_ ?_ <;> intro _) | fail) | (refine dk 5 ?_; refine CW.ret ?_) | (refine dk 6 ?_; refine CW.exit ?_)) | refine OW.nil ?_ | refine PK.code_normal ?_ | refine PK.code_exit ?_ | refine PK.lp_exit ?_ | refine PK.blk_exit ?_ | refine PK.nil_ret ?_ | fail | fail)
    refine ⟨_, ResOK.one rfl, ?_, rfl⟩
    congr 1
    exact decide_eq_decide.2 ⟨fun h => ⟨by omega, hall⟩, fun h => by have := h.1; omega⟩

/-! ### Folding -/
theorem own_cel {h : Heap} {b o len cap T : Nat} {c : List Int} (ho : Own h (.slice (some ⟨b, o, none⟩) len cap) T 1 len (intsV c)) {i : Nat} {x : Int} (hx : c[i]? = some x) : Cel h ⟨b, o + i, none⟩ (.int .i64 x) := by
  have hlv := ho.len_vs
  rw [intsV_length] at hlv
  have hi := (List.getElem?_eq_some_iff.1 hx).1
  rcases ho.sl.ok with ⟨p, cap', _, h2, _⟩ | ⟨b', o', cap', h2, _, _, _, hc⟩
  · omega
  · simp only [Value.slice.injEq, Option.some.injEq, Addr.mk.injEq] at h2
    obtain ⟨⟨rfl, rfl, _⟩, _, _⟩ := h2
    exact hc.cell (intsV_get hx)
theorem own_set {h : Heap} {b o len cap T : Nat} {c : List Int} (ho : Own h (.slice (some ⟨b, o, none⟩) len cap) T 1 len (intsV c)) {i : Nat} (hi : i < len) :
    ∃ L, Blk h b T L ∧ o + i < L.length ∧ ∀ h' x, Upd h b T (L.set (o + i) (.int .i64 x)) h' → Own h' (.slice (some ⟨b, o, none⟩) len cap) T 1 len (intsV (c.set i x)) := by
  have hlv := ho.len_vs
  rcases ho.ok with ⟨h1, _⟩ | ⟨b', o', cap', L, he, hb, h1, h2, h3⟩
  · cases h1
  cases he
  refine ⟨L, hb, by omega, fun h' x hu => ⟨by rw [intsV_length] at hlv ⊢; simpa using hlv, .inr ⟨b, o, cap, _, rfl, hu.blk, by rw [List.length_set]; exact h1, h2, ?_⟩⟩⟩
  rw [← intsV_set, ← h3]
  apply List.ext_getElem?
  intro j
  simp only [List.getElem?_take, List.getElem?_drop, List.getElem?_set, List.length_take, List.length_drop]
  by_cases hj : j < len * 1
  · rw [if_pos hj]
    by_cases hij : i = j
    · subst hij
      have e1 : o + i < L.length := by omega
      have e2 : i < min (len * 1) (L.length - o) := by omega
      rw [if_pos rfl, if_pos e1, if_pos rfl, if_pos e2]
    · rw [if_neg (by omega), if_neg hij, if_pos hj]
  · rw [if_neg hj, if_neg hj]
    by_cases hij : i = j
    · omega
    · rw [if_neg hij]

def zipC (op : Int → Int → Int) (a b : List Int) : List Int := List.zipWith op a b
def foldC (op : Int → Int → Int) (l : List (List Int)) : List Int := l.tail.foldl (zipC op) (l.headD [])
theorem zip_step {op : Int → Int → Int} {a c : List Int} {i : Nat} {x y : Int} (ha : a[i]? = some x) (hc : c[i]? = some y) (hl : a.length = c.length) :
    ((zipC op a c).take i ++ a.drop i).set i (op x y) = (zipC op a c).take (i + 1) ++ a.drop (i + 1) := by
  have hz : (zipC op a c)[i]? = some (op x y) := by simp [zipC, List.getElem?_zipWith, ha, hc]
  have hi := (List.getElem?_eq_some_iff.1 ha).1
  have hzl : (zipC op a c).length = a.length := by simp [zipC]; omega
  apply List.ext_getElem?
  intro j
  rw [List.getElem?_set]
  have htl : ((zipC op a c).take i).length = i := by simp; omega
  have htl2 : ((zipC op a c).take (i + 1)).length = i + 1 := by simp; omega
  by_cases hij : i = j
  · subst hij
    rw [if_pos rfl, if_pos (by simp; omega), List.getElem?_append_left (by omega), List.getElem?_take, if_pos (by omega), hz]
  · rw [if_neg hij]
    by_cases hj : j < i
    · rw [List.getElem?_append_left (by omega), List.getElem?_append_left (by omega), List.getElem?_take, List.getElem?_take, if_pos hj, if_pos (by omega)]
    · rw [List.getElem?_append_right (by omega), List.getElem?_append_right (by omega), htl, htl2, List.getElem?_drop, List.getElem?_drop]
      congr 1; omega
theorem zip_at {op : Int → Int → Int} {a c : List Int} {i : Nat} {x : Int} (ha : a[i]? = some x) (hl : a.length = c.length) : ((zipC op a c).take i ++ a.drop i)[i]? = some x := by
  have hi := (List.getElem?_eq_some_iff.1 ha).1
  have hzl : (zipC op a c).length = a.length := by simp [zipC]; omega
  have htl : ((zipC op a c).take i).length = i := by simp; omega
  rw [List.getElem?_append_right (by omega), htl, Nat.sub_self, List.getElem?_drop]
  simpa using ha

set_option maxHeartbeats 1000000 in
theorem fold_any {h : Heap} {F : Nat → Prop} {v : Value} {l : List (List Int)} {fid : Nat} {op : Int → Int → Int} (hs : clks.R h F [v] l) (hen : en fid = true)
    (hop : ∀ (h : Heap) (a b : Int), CallsH Try.prog fid #[.int .i64 a, .int .i64 b] h fun r h' => r = .int .i64 (op a b) ∧ h' = h) :
    CallsH Try.prog 75 #[.func (.func fid) #[] #[], v] h fun r h' =>
      if alk l then Own h' r 3 1 (l.headD []).length (intsV (foldC op l)) ∧ Stp [] h h' ∧ (∀ b ∈ blkOf r, h.size ≤ b) else r = .slice none 0 0 ∧ h' = h := by
  have hlm := sliceR_len hs
  obtain ⟨p, cap, he⟩ := sliceR_shape hs
  simp only [List.cons.injEq, and_true] at he
  subst he
  refine CallsH.of (l := [_, _]) Try.func75 rfl Try.ntmps75 Try.results75 rfl ?_
  repeat' (first | (refine St.d ?_; first | (refine dk 0 ?_; refine St.move rfl ?_) | (refine dk 1 ?_; refine St.assign rfl ?_) | (refine dk 23 ?_; first | refine St.call pg rfl rfl rfl ?_ | refine St.call0 pg rfl rfl rfl ?_ | refine St.callX pg rfl rfl rfl ?_ | fail)) | (refine OW.d ?_; refine dk 0 ?_; refine OW.step (gd_none rfl) rfl ?_) | (refine CW.d ?_; first | (refine dk 0 ?_; refine CW.seq ?_) | (refine dk 1 ?_; refine CW.region ?_)) | refine OW.nil ?_ | refine PK.code_normal ?_ | fail | fail)
  refine (alike_any hs).same ?_
  repeat' (first | (refine St.d ?_; first | (refine dk 0 ?_; refine St.move rfl ?_) | (refine dk 1 ?_; refine St.assign rfl ?_) | (refine dk 7 ?_; first | refine St.not_dec rfl ?_ | refine St.not rfl ?_ | fail)) | (refine OW.d ?_; refine dk 0 ?_; refine OW.step (gd_none rfl) rfl ?_) | (refine CW.d ?_; first | (refine dk 0 ?_; refine CW.seq ?_) | (refine dk 1 ?_; refine CW.region ?_) | (refine dk 3 ?_; first | refine CW.cond_true rfl (by (first | rfl | assumption | exact decide_eq_true (by first | assumption | omega) | exact decide_eq_false (by first | assumption | exact not_not_intro (by assumption) | omega) | fail)) ?_ | refine CW.cond_false rfl (by (first | rfl | assumption | exact decide_eq_true (by first | assumption | omega) | exact decide_eq_false (by first | assumption | exact not_not_intro (by assumption) | omega) | fail)) ?_ | (refine CW.cond_dnot rfl ?_ ?_ <;> intro _ <;> try (exfalso; omega)) | (refine CW.cond_dec rfl ?_ ?_ <;> intro _ <;> try (exfalso; omega)) | (refine CW.cond rfl ?_ ?_ <;> intro _) | fail) | (refine dk 4 ?_; refine CW.skip ?_) | (refine dk 5 ?_; refine CW.ret ?_)) | refine OW.nil ?_ | refine PK.code_normal ?_ | refine PK.code_ret ?_ | refine PK.nil_ret ?_ | fail | fail)
  · rename_i ha
    exact ⟨_, ResOK.one rfl, by rw [if_neg ha]; exact ⟨rfl, rfl⟩⟩
  rename_i ha
  simp only [if_pos ha]
  obtain ⟨c0, l1, rfl⟩ : ∃ c0 l1, l = c0 :: l1 := by
    cases l with
    | nil => exact absurd ha.1 (by simp)
    | cons a l => exact ⟨a, l, rfl⟩
  simp only [List.headD_cons]
  have hc0 : (c0 :: l1)[0]? = some c0 := rfl
  have hlen : (c0 :: l1).length = l1.length + 1 := rfl
  obtain ⟨b, o, rfl, _, _, _, hcap⟩ := clks_val hs (by simp)
  obtain ⟨v0, hcel0, hv0, _, hvl0⟩ := clk_at hs hc0
  have hvd := (ha.2 c0 (by simp)).1
  obtain ⟨p0, cap0, rfl⟩ := hv0.sl.shape
  repeat' (first | (refine St.d ?_; first | (refine dk 2 ?_; first | refine St.load pg rfl rfl rfl (by (first | assumption | exact Blk.cel (by (repeat (first | assumption | exact New.blk (by assumption) | exact Upd.blk (by assumption) | (apply New.old; assumption) | (apply Upd.keep; assumption; (focus (first | assumption | exact Ne.symm (by assumption) | omega | (intro hne; simp only at hne; omega)))) | (apply Stp.blk0; assumption) | (apply Stp.blk1; assumption; (focus (first | assumption | exact Ne.symm (by assumption) | omega | (intro hne; simp only at hne; omega))))))) (by rfl) | exact Cels.fld (by assumption) (by rfl) | exact Cels.fld0 (by assumption) (by rfl) | (repeat (first | assumption | (apply New.oldc; assumption) | (apply Upd.keepc; assumption; (focus (first | assumption | exact Ne.symm (by assumption) | omega | (intro hne; simp only at hne; omega)))) | (apply Stp.cel0; assumption))))) (by first | exact List.not_mem_nil | assumption) rfl ?_ | refine St.loadS pg rfl rfl rfl (by first | assumption | exact Blk.cels0 (by (repeat (first | assumption | exact New.blk (by assumption) | exact Upd.blk (by assumption) | (apply New.old; assumption) | (apply Upd.keep; assumption; (focus (first | assumption | exact Ne.symm (by assumption) | omega | (intro hne; simp only at hne; omega)))) | (apply Stp.blk0; assumption) | (apply Stp.blk1; assumption; (focus (first | assumption | exact Ne.symm (by assumption) | omega | (intro hne; simp only at hne; omega)))))))) (by first | exact List.not_mem_nil | assumption) rfl rfl ?_ | fail) | (refine dk 23 ?_; first | refine St.call pg rfl rfl rfl ?_ | refine St.call0 pg rfl rfl rfl ?_ | refine St.callX pg rfl rfl rfl ?_ | fail) | (refine dk 10 ?_; first | refine St.indexAddr1 pg rfl rfl rfl rfl rfl rfl rfl (by first | omega | decide | exact Nat.succ_pos _ | (show 0 < _; omega)) ?_ | refine St.indexAddr pg rfl rfl rfl rfl rfl rfl (by first | omega | decide | exact Nat.succ_pos _ | (show 0 < _; omega)) ?_ | refine St.indexAddrA1 pg rfl rfl rfl rfl rfl rfl rfl (by first | omega | decide) ?_ | fail)) | (refine OW.d ?_; refine dk 0 ?_; refine OW.step (gd_none rfl) rfl ?_) | fail | fail | fail)
  refine (clone_any hv0 (by have := hvd.2; omega)).mono ?_
  rintro ov h1 ⟨hov, hst1, hnew1⟩
  rcases hov.ok with ⟨_, h0⟩ | ⟨ob, oo, ocap, oL, rfl, _, _, _, _⟩
  · have := hvd.2; omega
  have hob : h.size ≤ ob := hnew1 ob (by simp [blkOf])
  repeat' (first | (refine St.d ?_; first | (refine dk 0 ?_; refine St.move rfl ?_) | (refine dk 1 ?_; refine St.assign rfl ?_)) | (refine OW.d ?_; refine dk 0 ?_; refine OW.step (gd_none rfl) rfl ?_) | (refine CW.d ?_; first | (refine dk 0 ?_; refine CW.seq ?_) | (refine dk 1 ?_; refine CW.region ?_)) | refine OW.nil ?_ | refine PK.code_normal ?_ | fail | fail)
  refine St.d ?_
  refine dk 38 ?_
  refine St.sliceL pg rfl rfl rfl rfl rfl (l' := 1) rfl (by omega) ?_
  repeat' (first | (refine St.d ?_; first | (refine dk 0 ?_; refine St.move rfl ?_) | (refine dk 11 ?_; refine St.len pg rfl rfl rfl ?_)) | (refine OW.d ?_; refine dk 0 ?_; refine OW.step (gd_none rfl) rfl ?_) | (refine CW.d ?_; first | (refine dk 7 ?_; refine CW.block ?_)) | refine OW.nil ?_ | refine PK.code_normal ?_ | fail | fail)
  refine CW.loop (fun j : Nat => [(0, .func (.func fid) #[] #[]), (5, .slice (some ⟨ob, oo, none⟩) c0.length ocap), (18, .slice (subA (some ⟨b, o, none⟩) 1 1 cap) l1.length (cap - 1)), (19, .int .i64 l1.length), (20, .int .i64 j)])
    (fun j h2 => j ≤ l1.length ∧ Own h2 (.slice (some ⟨ob, oo, none⟩) c0.length ocap) 3 1 c0.length (intsV ((l1.take j).foldl (zipC op) c0)) ∧ Stp [] h h2) (fun j => l1.length - j) 0 (by (repeat (first | exact trivial | refine ⟨rfl, ?_⟩))) ⟨Nat.zero_le _, by simpa using hov, hst1⟩ ?_
  rintro j h2 ⟨hj, ho2, hst2⟩
  by_cases hjl : j < l1.length
  · obtain ⟨c, hc⟩ : ∃ c, l1[j]? = some c := ⟨_, List.getElem?_eq_getElem hjl⟩
    have hc' : (c0 :: l1)[j + 1]? = some c := by simpa using hc
    obtain ⟨vj, hcj, hvj, hvF, hvl⟩ := clk_at hs hc'
    obtain ⟨pj, capj, rfl⟩ := hvj.sl.shape
    have hcl : c.length = c0.length := (ha.2 c (by simp [List.mem_of_getElem? hc])).2
    have hsub : subA (some (⟨b, o, none⟩ : Addr)) 1 1 cap = some ⟨b, o + 1, none⟩ := by
      unfold subA
      rw [if_neg (by omega)]
      simp [addr_add]
    have hcj2 : Cel h2 ⟨b, o + 1 + j, none⟩ (.slice pj c.length capj) := by
      have := hst2.cel0 hcj
      rw [show o + 1 + j = o + (j + 1) by omega]; exact this
    obtain ⟨acc, hacc⟩ : ∃ acc, (l1.take j).foldl (zipC op) c0 = acc := ⟨_, rfl⟩
    have hal : acc.length = c0.length := by
      have h9 := ho2.len_vs
      rw [intsV_length, hacc] at h9
      omega
    rw [hacc] at ho2
    rw [hsub]
    repeat' (first | (refine St.d ?_; first | (refine dk 0 ?_; refine St.move rfl ?_) | (refine dk 2 ?_; first | refine St.load pg rfl rfl rfl (by (first | assumption | exact Blk.cel (by (repeat (first | assumption | exact New.blk (by assumption) | exact Upd.blk (by assumption) | (apply New.old; assumption) | (apply Upd.keep; assumption; (focus (first | assumption | exact Ne.symm (by assumption) | omega | (intro hne; simp only at hne; omega)))) | (apply Stp.blk0; assumption) | (apply Stp.blk1; assumption; (focus (first | assumption | exact Ne.symm (by assumption) | omega | (intro hne; simp only at hne; omega))))))) (by rfl) | exact Cels.fld (by assumption) (by rfl) | exact Cels.fld0 (by assumption) (by rfl) | (repeat (first | assumption | (apply New.oldc; assumption) | (apply Upd.keepc; assumption; (focus (first | assumption | exact Ne.symm (by assumption) | omega | (intro hne; simp only at hne; omega)))) | (apply Stp.cel0; assumption))))) (by first | exact List.not_mem_nil | assumption) rfl ?_ | refine St.loadS pg rfl rfl rfl (by first | assumption | exact Blk.cels0 (by (repeat (first | assumption | exact New.blk (by assumption) | exact Upd.blk (by assumption) | (apply New.old; assumption) | (apply Upd.keep; assumption; (focus (first | assumption | exact Ne.symm (by assumption) | omega | (intro hne; simp only at hne; omega)))) | (apply Stp.blk0; assumption) | (apply Stp.blk1; assumption; (focus (first | assumption | exact Ne.symm (by assumption) | omega | (intro hne; simp only at hne; omega)))))))) (by first | exact List.not_mem_nil | assumption) rfl rfl ?_ | fail) | (refine dk 1 ?_; refine St.assign rfl ?_) | (refine dk 14 ?_; refine St.lss rfl rfl ?_) | (refine dk 10 ?_; first | refine St.indexAddr1 pg rfl rfl rfl rfl rfl rfl rfl (by first | omega | decide | exact Nat.succ_pos _ | (show 0 < _; omega)) ?_ | refine St.indexAddr pg rfl rfl rfl rfl rfl rfl (by first | omega | decide | exact Nat.succ_pos _ | (show 0 < _; omega)) ?_ | refine St.indexAddrA1 pg rfl rfl rfl rfl rfl rfl rfl (by first | omega | decide) ?_ | fail) | (refine dk 11 ?_; refine St.len pg rfl rfl rfl ?_)) | (refine OW.d ?_; refine dk 0 ?_; refine OW.step (gd_none rfl) rfl ?_) | (refine CW.d ?_; first | (refine dk 0 ?_; refine CW.seq ?_) | (refine dk 1 ?_; refine CW.region ?_) | (refine dk 3 ?_; first | refine CW.cond_true rfl (by (first | rfl | assumption | exact decide_eq_true (by first | assumption | omega) | exact decide_eq_false (by first | assumption | exact not_not_intro (by assumption) | omega) | fail)) ?_ | refine CW.cond_false rfl (by (first | rfl | assumption | exact decide_eq_true (by first | assumption | omega) | exact decide_eq_false (by first | assumption | exact not_not_intro (by assumption) | omega) | fail)) ?_ | (refine CW.cond_dnot rfl ?_ ?_ <;> intro _ <;> try (exfalso; omega)) | (refine CW.cond_dec rfl ?_ ?_ <;> intro _ <;> try (exfalso; omega)) | (refine CW.cond rfl ?_ ?_ <;> intro _) | fail) | (refine dk 4 ?_; refine CW.skip ?_) | (refine dk 7 ?_; refine CW.block ?_)) | refine OW.nil ?_ | refine PK.code_normal ?_ | fail | fail)
    refine CW.loop (fun i : Nat => [(0, .func (.func fid) #[] #[]), (5, .slice (some ⟨ob, oo, none⟩) c0.length ocap), (18, .slice (some ⟨b, o + 1, none⟩) l1.length (cap - 1)), (19, .int .i64 l1.length), (20, .int .i64 j), (24, .slice pj c.length capj), (25, .int .i64 c.length), (26, .int .i64 i)])
      (fun i h3 => i ≤ c.length ∧ Own h3 (.slice (some ⟨ob, oo, none⟩) c0.length ocap) 3 1 c0.length (intsV ((zipC op acc c).take i ++ acc.drop i)) ∧ Stp [] h h3) (fun i => c.length - i) 0 (by (repeat (first | exact trivial | refine ⟨rfl, ?_⟩))) ⟨Nat.zero_le _, by simpa using ho2, hst2⟩ ?_
    rintro i h3 ⟨hi, ho3, hst3⟩
    by_cases hil : i < c.length
    · obtain ⟨y, hy⟩ : ∃ y, c[i]? = some y := ⟨_, List.getElem?_eq_getElem hil⟩
      obtain ⟨x, hx⟩ : ∃ x, acc[i]? = some x := ⟨_, List.getElem?_eq_getElem (by omega)⟩
      have hv3 := hvj.stp hst3 (by simp)
      rcases hv3.cases with h2 | ⟨cb, co, ccap, h1, _, _⟩
      · subst h2; simp at hil
      simp only [Value.slice.injEq] at h1
      obtain ⟨rfl, _, rfl⟩ := h1
      have hcy := hv3.cel hy
      have hcx : Cel h3 ⟨ob, oo + i, none⟩ (.int .i64 x) := own_cel ho3 (zip_at hx (by omega))
      obtain ⟨L, hL, hLi, hLs⟩ := own_set ho3 (i := i) (by omega)
      repeat' (first | (refine St.d ?_; first | (refine dk 0 ?_; refine St.move rfl ?_) | (refine dk 2 ?_; first | refine St.load pg rfl rfl rfl (by (first | assumption | exact Blk.cel (by (repeat (first | assumption | exact New.blk (by assumption) | exact Upd.blk (by assumption) | (apply New.old; assumption) | (apply Upd.keep; assumption; (focus (first | assumption | exact Ne.symm (by assumption) | omega | (intro hne; simp only at hne; omega)))) | (apply Stp.blk0; assumption) | (apply Stp.blk1; assumption; (focus (first | assumption | exact Ne.symm (by assumption) | omega | (intro hne; simp only at hne; omega))))))) (by rfl) | exact Cels.fld (by assumption) (by rfl) | exact Cels.fld0 (by assumption) (by rfl) | (repeat (first | assumption | (apply New.oldc; assumption) | (apply Upd.keepc; assumption; (focus (first | assumption | exact Ne.symm (by assumption) | omega | (intro hne; simp only at hne; omega)))) | (apply Stp.cel0; assumption))))) (by first | exact List.not_mem_nil | assumption) rfl ?_ | refine St.loadS pg rfl rfl rfl (by first | assumption | exact Blk.cels0 (by (repeat (first | assumption | exact New.blk (by assumption) | exact Upd.blk (by assumption) | (apply New.old; assumption) | (apply Upd.keep; assumption; (focus (first | assumption | exact Ne.symm (by assumption) | omega | (intro hne; simp only at hne; omega)))) | (apply Stp.blk0; assumption) | (apply Stp.blk1; assumption; (focus (first | assumption | exact Ne.symm (by assumption) | omega | (intro hne; simp only at hne; omega)))))))) (by first | exact List.not_mem_nil | assumption) rfl rfl ?_ | fail) | (refine dk 1 ?_; refine St.assign rfl ?_) | (refine dk 14 ?_; refine St.lss rfl rfl ?_) | (refine dk 10 ?_; first | refine St.indexAddr1 pg rfl rfl rfl rfl rfl rfl rfl (by first | omega | decide | exact Nat.succ_pos _ | (show 0 < _; omega)) ?_ | refine St.indexAddr pg rfl rfl rfl rfl rfl rfl (by first | omega | decide | exact Nat.succ_pos _ | (show 0 < _; omega)) ?_ | refine St.indexAddrA1 pg rfl rfl rfl rfl rfl rfl rfl (by first | omega | decide) ?_ | fail)) | (refine OW.d ?_; refine dk 0 ?_; refine OW.step (gd_none rfl) rfl ?_) | (refine CW.d ?_; first | (refine dk 0 ?_; refine CW.seq ?_) | (refine dk 1 ?_; refine CW.region ?_) | (refine dk 3 ?_; first | refine CW.cond_true rfl (by (first | rfl | assumption | exact decide_eq_true (by first | assumption | omega) | exact decide_eq_false (by first | assumption | exact not_not_intro (by assumption) | omega) | fail)) ?_ | refine CW.cond_false rfl (by (first | rfl | assumption | exact decide_eq_true (by first | assumption | omega) | exact decide_eq_false (by first | assumption | exact not_not_intro (by assumption) | omega) | fail)) ?_ | (refine CW.cond_dnot rfl ?_ ?_ <;> intro _ <;> try (exfalso; omega)) | (refine CW.cond_dec rfl ?_ ?_ <;> intro _ <;> try (exfalso; omega)) | (refine CW.cond rfl ?_ ?_ <;> intro _) | fail) | (refine dk 4 ?_; refine CW.skip ?_) | (refine dk 7 ?_; refine CW.block ?_)) | refine OW.nil ?_ | refine PK.code_normal ?_ | fail | fail)
      refine St.d ?_
      refine dk 24 ?_
      refine St.callT pg (first := []) (cap := []) rfl rfl hen rfl ?_
      refine (hop h3 x y).same ?_
      repeat' (first | (refine St.d ?_; first | (refine dk 0 ?_; refine St.move rfl ?_) | (refine dk 3 ?_; first | (refine St.store pg rfl rfl rfl rfl rfl (by (repeat (first | assumption | exact New.blk (by assumption) | exact Upd.blk (by assumption) | (apply New.old; assumption) | (apply Upd.keep; assumption; (focus (first | assumption | exact Ne.symm (by assumption) | omega | (intro hne; simp only at hne; omega)))) | (apply Stp.blk0; assumption) | (apply Stp.blk1; assumption; (focus (first | assumption | exact Ne.symm (by assumption) | omega | (intro hne; simp only at hne; omega))))))) (by (first | exact SetL.set (by assumption) | (repeat (first | exact SetL.z | apply SetL.s)))) rfl ?_; intro _ _ _) | (refine St.storeS pg rfl rfl rfl rfl (by simp) (by first | (simp [Value.oneCell', *]; done) | (intro u hu; simp only [List.mem_cons, List.not_mem_nil, or_false] at hu; repeat' (first | (rcases hu with rfl | hu; first | rfl | assumption) | (subst hu; first | rfl | assumption)))) (by (repeat (first | assumption | exact New.blk (by assumption) | exact Upd.blk (by assumption) | (apply New.old; assumption) | (apply Upd.keep; assumption; (focus (first | assumption | exact Ne.symm (by assumption) | omega | (intro hne; simp only at hne; omega)))) | (apply Stp.blk0; assumption) | (apply Stp.blk1; assumption; (focus (first | assumption | exact Ne.symm (by assumption) | omega | (intro hne; simp only at hne; omega))))))) (by (repeat (first | exact SetR.z | (apply SetR.c; (focus (first | exact SetL.set (by assumption) | (repeat (first | exact SetL.z | apply SetL.s)))))))) rfl ?_; intro _ _ _) | fail) | (refine dk 18 ?_; refine St.add rfl rfl (by omega) ?_) | (refine dk 10 ?_; first | refine St.indexAddr1 pg rfl rfl rfl rfl rfl rfl rfl (by first | omega | decide | exact Nat.succ_pos _ | (show 0 < _; omega)) ?_ | refine St.indexAddr pg rfl rfl rfl rfl rfl rfl (by first | omega | decide | exact Nat.succ_pos _ | (show 0 < _; omega)) ?_ | refine St.indexAddrA1 pg rfl rfl rfl rfl rfl rfl rfl (by first | omega | decide) ?_ | fail)) | (refine OW.d ?_; refine dk 0 ?_; refine OW.step (gd_none rfl) rfl ?_) | (refine CW.d ?_; first | (refine dk 1 ?_; refine CW.region ?_)) | refine OW.nil ?_ | refine PK.code_normal ?_ | refine PK.blk_normal ?_ | refine PK.lp_normal ?_ | fail | fail)
      rename_i h4 hu hsz
      have ho4 := hLs h4 _ hu
      rw [zip_step hx hy (by omega)] at ho4
      exact ⟨i + 1, by (repeat (first | exact trivial | refine ⟨rfl, ?_⟩)), ⟨hil, ho4, Stp.upd hu hst3 (.inr hob)⟩, by omega⟩
    · have hie : i = c.length := by omega
      subst hie
      have hzl : (zipC op acc c).length = c.length := by simp [zipC]; omega
      rw [List.take_of_length_le (by omega), List.drop_of_length_le (by omega), List.append_nil] at ho3
      have hnext : (l1.take (j + 1)).foldl (zipC op) c0 = zipC op acc c := by
        rw [List.take_add_one, hc]; simp [hacc]
      repeat' (first | (refine St.d ?_; first | (refine dk 0 ?_; refine St.move rfl ?_) | (refine dk 14 ?_; refine St.lss rfl rfl ?_) | (refine dk 18 ?_; refine St.add rfl rfl (by omega) ?_)) | (refine OW.d ?_; refine dk 0 ?_; refine OW.step (gd_none rfl) rfl ?_) | (refine CW.d ?_; first | (refine dk 0 ?_; refine CW.seq ?_) | (refine dk 1 ?_; refine CW.region ?_) | (refine dk 3 ?_; first | refine CW.cond_true rfl (by (first | rfl | assumption | exact decide_eq_true (by first | assumption | omega) | exact decide_eq_false (by first | assumption | exact not_not_intro (by assumption) | omega) | fail)) ?_ | refine CW.cond_false rfl (by (first | rfl | assumption | exact decide_eq_true (by first | assumption | omega) | exact decide_eq_false (by first | assumption | exact not_not_intro (by assumption) | omega) | fail)) ?_ | (refine CW.cond_dnot rfl ?_ ?_ <;> intro _ <;> try (exfalso; omega)) | (refine CW.cond_dec rfl ?_ ?_ <;> intro _ <;> try (exfalso; omega)) | (refine CW.cond rfl ?_ ?_ <;> intro _) | fail) | (refine dk 6 ?_; refine CW.exit ?_)) | refine OW.nil ?_ | refine PK.code_normal ?_ | refine PK.blk_normal ?_ | refine PK.lp_normal ?_ | refine PK.code_exit ?_ | refine PK.lp_exit ?_ | refine PK.blk_exit ?_ | fail | fail)
      refine ⟨j + 1, by (repeat (first | exact trivial | refine ⟨rfl, ?_⟩)), ⟨hjl, by rw [hnext]; exact ho3, hst3⟩, by omega⟩
  · have hje : j = l1.length := by omega
    subst hje
    rw [List.take_length] at ho2
    repeat' (first | (refine St.d ?_; first | (refine dk 0 ?_; refine St.move rfl ?_) | (refine dk 1 ?_; refine St.assign rfl ?_) | (refine dk 14 ?_; refine St.lss rfl rfl ?_)) | (refine OW.d ?_; refine dk 0 ?_; refine OW.step (gd_none rfl) rfl ?_) | (refine CW.d ?_; first | (refine dk 0 ?_; refine CW.seq ?_) | (refine dk 1 ?_; refine CW.region ?_) | (refine dk 3 ?_; first | refine CW.cond_true rfl (by (first | rfl | assumption | exact decide_eq_true (by first | assumption | omega) | exact decide_eq_false (by first | assumption | exact not_not_intro (by assumption) | omega) | fail)) ?_ | refine CW.cond_false rfl (by (first | rfl | assumption | exact decide_eq_true (by first | assumption | omega) | exact decide_eq_false (by first | assumption | exact not_not_intro (by assumption) | omega) | fail)) ?_ | (refine CW.cond_dnot rfl ?_ ?_ <;> intro _ <;> try (exfalso; omega)) | (refine CW.cond_dec rfl ?_ ?_ <;> intro _ <;> try (exfalso; omega)) | (refine CW.cond rfl ?_ ?_ <;> intro _) | fail) | (refine dk 5 ?_; refine CW.ret ?_) | (refine dk 6 ?_; refine CW.exit ?_)) | refine OW.nil ?_ | refine PK.code_normal ?_ | refine PK.code_exit ?_ | refine PK.lp_exit ?_ | refine PK.blk_exit ?_ | refine PK.nil_ret ?_ | fail | fail)
    exact ⟨_, ResOK.one rfl, ho2, hst2, by simp [blkOf]; omega⟩

theorem join1_any (h : Heap) (a b : Int) : CallsH Try.prog 76 #[.int .i64 a, .int .i64 b] h fun r h' => r = .int .i64 (max a b) ∧ h' = h := by
  refine CallsH.of (l := [_, _]) Try.func76 rfl Try.ntmps76 Try.results76 rfl ?_
  repeat' (first | (refine St.d ?_; first | (refine dk 0 ?_; refine St.move rfl ?_) | (refine dk 1 ?_; refine St.assign rfl ?_) | (refine dk 27 ?_; refine St.imax rfl rfl ?_)) | (refine OW.d ?_; refine dk 0 ?_; refine OW.step (gd_none rfl) rfl ?_) | (refine CW.d ?_; first | (refine dk 0 ?_; refine CW.seq ?_) | (refine dk 1 ?_; refine CW.region ?_) | (refine dk 5 ?_; refine CW.ret ?_)) | refine OW.nil ?_ | refine PK.code_normal ?_ | refine PK.nil_ret ?_ | fail | fail)
  exact ⟨_, ResOK.one rfl, rfl, rfl⟩
theorem meet1_any (h : Heap) (a b : Int) : CallsH Try.prog 77 #[.int .i64 a, .int .i64 b] h fun r h' => r = .int .i64 (min a b) ∧ h' = h := by
  refine CallsH.of (l := [_, _]) Try.func77 rfl Try.ntmps77 Try.results77 rfl ?_
  repeat' (first | (refine St.d ?_; first | (refine dk 0 ?_; refine St.move rfl ?_) | (refine dk 1 ?_; refine St.assign rfl ?_) | (refine dk 26 ?_; refine St.imin rfl rfl ?_)) | (refine OW.d ?_; refine dk 0 ?_; refine OW.step (gd_none rfl) rfl ?_) | (refine CW.d ?_; first | (refine dk 0 ?_; refine CW.seq ?_) | (refine dk 1 ?_; refine CW.region ?_) | (refine dk 5 ?_; refine CW.ret ?_)) | refine OW.nil ?_ | refine PK.code_normal ?_ | refine PK.nil_ret ?_ | fail | fail)
  exact ⟨_, ResOK.one rfl, rfl, rfl⟩
theorem join_any {h : Heap} {F : Nat → Prop} {v : Value} {l : List (List Int)} (hs : clks.R h F [v] l) :
    CallsH Try.prog 44 #[v] h fun r h' => if alk l then Own h' r 3 1 (l.headD []).length (intsV (foldC max l)) ∧ Stp [] h h' ∧ (∀ b ∈ blkOf r, h.size ≤ b) else r = .slice none 0 0 ∧ h' = h := by
  refine CallsH.of (l := [_]) Try.func44 rfl Try.ntmps44 Try.results44 rfl ?_
  repeat' (first | (refine St.d ?_; first | (refine dk 0 ?_; refine St.move rfl ?_) | (refine dk 1 ?_; refine St.assign rfl ?_) | (refine dk 23 ?_; first | refine St.call pg rfl rfl rfl ?_ | refine St.call0 pg rfl rfl rfl ?_ | refine St.callX pg rfl rfl rfl ?_ | fail)) | (refine OW.d ?_; refine dk 0 ?_; refine OW.step (gd_none rfl) rfl ?_) | (refine CW.d ?_; first | (refine dk 0 ?_; refine CW.seq ?_) | (refine dk 1 ?_; refine CW.region ?_)) | refine OW.nil ?_ | refine PK.code_normal ?_ | fail | fail)
  refine (fold_any hs rfl join1_any).mono ?_
  rintro r h' hr
  repeat' (first | (refine St.d ?_; first | (refine dk 1 ?_; refine St.assign rfl ?_)) | (refine OW.d ?_; refine dk 0 ?_; refine OW.step (gd_none rfl) rfl ?_) | (refine CW.d ?_; first | (refine dk 5 ?_; refine CW.ret ?_)) | refine OW.nil ?_ | refine PK.code_normal ?_ | refine PK.nil_ret ?_ | fail | fail)
  exact ⟨_, ResOK.one rfl, hr⟩
theorem meet_any {h : Heap} {F : Nat → Prop} {v : Value} {l : List (List Int)} (hs : clks.R h F [v] l) :
    CallsH Try.prog 45 #[v] h fun r h' => if alk l then Own h' r 3 1 (l.headD []).length (intsV (foldC min l)) ∧ Stp [] h h' ∧ (∀ b ∈ blkOf r, h.size ≤ b) else r = .slice none 0 0 ∧ h' = h := by
  refine CallsH.of (l := [_]) Try.func45 rfl Try.ntmps45 Try.results45 rfl ?_
  repeat' (first | (refine St.d ?_; first | (refine dk 0 ?_; refine St.move rfl ?_) | (refine dk 1 ?_; refine St.assign rfl ?_) | (refine dk 23 ?_; first | refine St.call pg rfl rfl rfl ?_ | refine St.call0 pg rfl rfl rfl ?_ | refine St.callX pg rfl rfl rfl ?_ | fail)) | (refine OW.d ?_; refine dk 0 ?_; refine OW.step (gd_none rfl) rfl ?_) | (refine CW.d ?_; first | (refine dk 0 ?_; refine CW.seq ?_) | (refine dk 1 ?_; refine CW.region ?_)) | refine OW.nil ?_ | refine PK.code_normal ?_ | fail | fail)
  refine (fold_any hs rfl meet1_any).mono ?_
  rintro r h' hr
  repeat' (first | (refine St.d ?_; first | (refine dk 1 ?_; refine St.assign rfl ?_)) | (refine OW.d ?_; refine dk 0 ?_; refine OW.step (gd_none rfl) rfl ?_) | (refine CW.d ?_; first | (refine dk 5 ?_; refine CW.ret ?_)) | refine OW.nil ?_ | refine PK.code_normal ?_ | refine PK.nil_ret ?_ | fail | fail)
  exact ⟨_, ResOK.one rfl, hr⟩
end Go.Proofs.Ytaopehadegknoaa
