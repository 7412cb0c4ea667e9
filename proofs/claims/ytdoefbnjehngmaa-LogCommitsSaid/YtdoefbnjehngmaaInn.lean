/- Contracts of index, contains and Majority over lists of integers; conditions: the lists lie in the heap. -/
import Derived.Test.YtdoefbnjehngmaaPg
namespace Go.Proofs.Ytdoefbnjehngmaa
open Go Go.CF
set_option maxRecDepth 20000

def idx (l : List Int) (x : Int) : Int := match l.findIdx? (fun y => decide (x = y)) with | some i => i | none => -1

theorem idx_at {l : List Int} {x : Int} {i : Nat} (hi : l[i]? = some x) (hb : ∀ j y, j < i → l[j]? = some y → x ≠ y) : idx l x = i := by
  have : l.findIdx? (fun y => decide (x = y)) = some i := by
    rw [List.findIdx?_eq_some_iff_getElem]
    have hlt := (List.getElem?_eq_some_iff.1 hi).1
    refine ⟨hlt, ?_, fun j hj => ?_⟩
    · have := (List.getElem?_eq_some_iff.1 hi).2; simp [this]
    · have := hb j l[j] hj (List.getElem?_eq_getElem _); simpa using this
  simp [idx, this]
theorem idx_none {l : List Int} {x : Int} (hb : ∀ (j : Nat) y, l[j]? = some y → x ≠ y) : idx l x = -1 := by
  have : l.findIdx? (fun y => decide (x = y)) = none := by
    rw [List.findIdx?_eq_none_iff]
    intro y hy
    obtain ⟨j, hj⟩ := List.getElem?_of_mem hy
    simpa using hb j y hj
  simp [idx, this]

theorem idx_any {h : Heap} {v : Value} {l : List Int} (hs : IntS h v l) (hl : l.length ≤ 9223372036854775807) (x : Int) :
    CallsH Try.prog 44 #[v, .int .i64 x] h fun r h' => r = .int .i64 (idx l x) ∧ h' = h := by
  obtain ⟨p, cap, rfl⟩ := hs.sl.shape
  refine CallsH.of (l := [_, _]) Try.func44 rfl Try.ntmps44 Try.results44 rfl ?_
  repeat' (first | (refine St.d ?_; first | (refine dk 0 ?_; refine St.move rfl ?_) | (refine dk 1 ?_; refine St.assign rfl ?_) | (refine dk 11 ?_; refine St.len pg rfl rfl rfl ?_)) | (refine OW.d ?_; refine dk 0 ?_; refine OW.step (gd_none rfl) rfl ?_) | (refine CW.d ?_; first | (refine dk 0 ?_; refine CW.seq ?_) | (refine dk 1 ?_; refine CW.region ?_) | (refine dk 7 ?_; refine CW.block ?_)) | refine OW.nil ?_ | refine PK.code_normal ?_ | fail | fail)
  refine CW.loop (fun i : Nat => [(0, .slice p l.length cap), (1, .int .i64 x), (6, .slice p l.length cap), (7, .int .i64 l.length), (8, .int .i64 i)]) (fun i h' => h' = h ∧ i ≤ l.length ∧ ∀ j y, j < i → l[j]? = some y → x ≠ y) (fun i => l.length - i) 0 (by (repeat (first | exact trivial | refine ⟨rfl, ?_⟩))) ⟨rfl, Nat.zero_le _, fun j y hj => by omega⟩ ?_
  rintro i _ ⟨rfl, hle, hb⟩
  by_cases hi : i < l.length
  · obtain ⟨y, hy⟩ : ∃ y, l[i]? = some y := ⟨l[i], List.getElem?_eq_getElem hi⟩
    rcases hs.cases with h2 | ⟨b, o, cap', h1, _, _⟩
    · subst h2; simp at hi
    · simp only [Value.slice.injEq] at h1
      obtain ⟨rfl, _, rfl⟩ := h1
      have hc := hs.cel hy
      repeat' (first | (refine St.d ?_; first | (refine dk 0 ?_; refine St.move rfl ?_) | (refine dk 2 ?_; first | refine St.load pg rfl rfl rfl (by (first | assumption | exact Blk.cel (by (repeat (first | assumption | exact New.blk (by assumption) | exact Upd.blk (by assumption) | (apply New.old; assumption) | (apply Upd.keep; assumption; (focus (first | assumption | exact Ne.symm (by assumption) | omega | (intro hne; simp only at hne; omega)))) | (apply Stp.blk0; assumption) | (apply Stp.blk1; assumption; (focus (first | assumption | exact Ne.symm (by assumption) | omega | (intro hne; simp only at hne; omega))))))) (by rfl) | exact Cels.fld (by assumption) (by rfl) | exact Cels.fld0 (by assumption) (by rfl) | (repeat (first | assumption | (apply New.oldc; assumption) | (apply Upd.keepc; assumption; (focus (first | assumption | exact Ne.symm (by assumption) | omega | (intro hne; simp only at hne; omega)))) | (apply Stp.cel0; assumption))))) (by first | exact List.not_mem_nil | assumption) rfl ?_ | refine St.loadS pg rfl rfl rfl (by first | assumption | exact Blk.cels0 (by (repeat (first | assumption | exact New.blk (by assumption) | exact Upd.blk (by assumption) | (apply New.old; assumption) | (apply Upd.keep; assumption; (focus (first | assumption | exact Ne.symm (by assumption) | omega | (intro hne; simp only at hne; omega)))) | (apply Stp.blk0; assumption) | (apply Stp.blk1; assumption; (focus (first | assumption | exact Ne.symm (by assumption) | omega | (intro hne; simp only at hne; omega))))))) | (repeat (first | assumption | (apply Cels.newc; assumption) | (apply Cels.stpc; assumption) | (apply Cels.updc; assumption; (focus (first | assumption | exact Ne.symm (by assumption) | omega | (intro hne; simp only at hne; omega))))))) (by first | exact List.not_mem_nil | assumption) rfl rfl ?_ | fail) | (refine dk 1 ?_; refine St.assign rfl ?_) | (refine dk 12 ?_; first | refine St.eql rfl rfl ?_ | refine St.eql_pnil pg rfl rfl rfl rfl ?_ | refine St.eql_snil pg rfl rfl rfl rfl ?_ | refine St.beql pg rfl rfl rfl rfl ?_ | fail) | (refine dk 14 ?_; refine St.lss rfl rfl ?_) | (refine dk 18 ?_; refine St.add rfl rfl (by omega) ?_) | (refine dk 10 ?_; first | refine St.indexAddr1 pg rfl rfl rfl rfl rfl rfl rfl (by first | omega | decide | exact Nat.succ_pos _ | (show 0 < _; omega)) ?_ | refine St.indexAddr pg rfl rfl rfl rfl rfl rfl (by first | omega | decide | exact Nat.succ_pos _ | (show 0 < _; omega)) ?_ | refine St.indexAddrA1 pg rfl rfl rfl rfl rfl rfl rfl (by first | omega | decide) ?_ | refine St.indexAddrA pg rfl rfl rfl rfl rfl rfl (by first | omega | decide) ?_ | fail)) | (refine OW.d ?_; refine dk 0 ?_; refine OW.step (gd_none rfl) rfl ?_) | (refine CW.d ?_; first | (refine dk 0 ?_; refine CW.seq ?_) | (refine dk 1 ?_; refine CW.region ?_) | (refine dk 3 ?_; first | refine CW.cond_true rfl (by (first | rfl | assumption | exact decide_eq_true (by first | assumption | omega) | exact decide_eq_false (by first | assumption | exact not_not_intro (by assumption) | omega) | fail)) ?_ | refine CW.cond_false rfl (by (first | rfl | assumption | exact decide_eq_true (by first | assumption | omega) | exact decide_eq_false (by first | assumption | exact not_not_intro (by assumption) | omega) | fail)) ?_ | (refine CW.cond_dnot rfl ?_ ?_ <;> intro _ <;> try (exfalso; omega)) | (refine CW.cond_dec rfl ?_ ?_ <;> intro _ <;> try (exfalso; omega)) | (refine CW.cond rfl ?_ ?_ <;> intro _) | fail) | (refine dk 4 ?_; refine CW.skip ?_) | (refine dk 5 ?_; refine CW.ret ?_) | (refine dk 7 ?_; refine CW.block ?_)) | refine OW.nil ?_ | refine PK.code_normal ?_ | refine PK.blk_normal ?_ | refine PK.lp_normal ?_ | refine PK.code_ret ?_ | refine PK.blk_ret ?_ | refine PK.lp_ret ?_ | refine PK.nil_ret ?_ | fail | fail)
      · rename_i hxy
        refine ⟨_, ResOK.one rfl, ?_, rfl⟩
        subst hxy
        rw [idx_at hy hb]
      · rename_i hxy
        refine ⟨i + 1, by (repeat (first | exact trivial | refine ⟨rfl, ?_⟩)), ⟨rfl, hi, fun j z hj hz => ?_⟩, by omega⟩
        by_cases hji : j = i
        · subst hji; rw [hy] at hz; cases hz; exact hxy
        · exact hb j z (by omega) hz
  · repeat' (first | (refine St.d ?_; first | (refine dk 1 ?_; refine St.assign rfl ?_) | (refine dk 14 ?_; refine St.lss rfl rfl ?_)) | (refine OW.d ?_; refine dk 0 ?_; refine OW.step (gd_none rfl) rfl ?_) | (refine CW.d ?_; first | (refine dk 0 ?_; refine CW.seq ?_) | (refine dk 1 ?_; refine CW.region ?_) | (refine dk 3 ?_; first | refine CW.cond_true rfl (by (first | rfl | assumption | exact decide_eq_true (by first | assumption | omega) | exact decide_eq_false (by first | assumption | exact not_not_intro (by assumption) | omega) | fail)) ?_ | refine CW.cond_false rfl (by (first | rfl | assumption | exact decide_eq_true (by first | assumption | omega) | exact decide_eq_false (by first | assumption | exact not_not_intro (by assumption) | omega) | fail)) ?_ | (refine CW.cond_dnot rfl ?_ ?_ <;> intro _ <;> try (exfalso; omega)) | (refine CW.cond_dec rfl ?_ ?_ <;> intro _ <;> try (exfalso; omega)) | (refine CW.cond rfl ?_ ?_ <;> intro _) | fail) | (refine dk 5 ?_; refine CW.ret ?_) | (refine dk 6 ?_; refine CW.exit ?_)) | refine OW.nil ?_ | refine PK.code_normal ?_ | refine PK.code_exit ?_ | refine PK.lp_exit ?_ | refine PK.blk_exit ?_ | refine PK.nil_ret ?_ | fail | fail)
    refine ⟨_, ResOK.one rfl, ?_, rfl⟩
    rw [idx_none fun j y hj => hb j y (by have := (List.getElem?_eq_some_iff.1 hj).1; omega) hj]

theorem idx_nonneg (l : List Int) (x : Int) : (0 ≤ idx l x) ↔ x ∈ l := by
  unfold idx
  cases hf : l.findIdx? (fun y => decide (x = y)) with
  | none =>
    rw [List.findIdx?_eq_none_iff] at hf
    simp only [show ¬ (0 : Int) ≤ -1 by decide, false_iff]
    intro hm
    have := hf x hm
    simp at this
  | some i =>
    rw [List.findIdx?_eq_some_iff_getElem] at hf
    obtain ⟨hlt, hx, _⟩ := hf
    simp at hx
    simp only [show (0 : Int) ≤ (i : Int) by omega, true_iff]
    rw [hx]; exact List.getElem_mem hlt

theorem has_any {h : Heap} {v : Value} {l : List Int} (hs : IntS h v l) (hl : l.length ≤ 9223372036854775807) (x : Int) :
    CallsH Try.prog 43 #[v, .int .i64 x] h fun r h' => r = .bool (decide (x ∈ l)) ∧ h' = h := by
  refine CallsH.of (l := [_, _]) Try.func43 rfl Try.ntmps43 Try.results43 rfl ?_
  repeat' (first | (refine St.d ?_; first | (refine dk 0 ?_; refine St.move rfl ?_) | (refine dk 1 ?_; refine St.assign rfl ?_) | (refine dk 23 ?_; first | refine St.call pg rfl rfl rfl ?_ | refine St.call0 pg rfl rfl rfl ?_ | refine St.callX pg rfl rfl rfl ?_ | fail)) | (refine OW.d ?_; refine dk 0 ?_; refine OW.step (gd_none rfl) rfl ?_) | (refine CW.d ?_; first | (refine dk 0 ?_; refine CW.seq ?_) | (refine dk 1 ?_; refine CW.region ?_)) | refine OW.nil ?_ | refine PK.code_normal ?_ | fail | fail)
  refine (idx_any hs hl x).mono ?_
  rintro _ _ ⟨rfl, rfl⟩
  repeat' (first | (refine St.d ?_; first | (refine dk 1 ?_; refine St.assign rfl ?_) | (refine dk 17 ?_; refine St.geq rfl rfl ?_)) | (refine OW.d ?_; refine dk 0 ?_; refine OW.step (gd_none rfl) rfl ?_) | (refine CW.d ?_; first | (refine dk 5 ?_; refine CW.ret ?_)) | refine OW.nil ?_ | refine PK.code_normal ?_ | refine PK.nil_ret ?_ | fail | fail)
  refine ⟨_, ResOK.one rfl, ?_, rfl⟩
  congr 1
  exact decide_eq_decide.2 (idx_nonneg l x)

def cnt (voters some : List Int) : Nat := (voters.filter (fun v => decide (v ∈ some))).length
def maj (voters some : List Int) : Prop := voters.length < 2 * cnt voters some
instance (voters some : List Int) : Decidable (maj voters some) := inferInstanceAs (Decidable (_ < _))
theorem cnt_take {voters some : List Int} {i : Nat} {x : Int} (h : voters[i]? = Option.some x) : cnt (voters.take (i + 1)) some = cnt (voters.take i) some + if x ∈ some then 1 else 0 := by
  rw [List.take_add_one, h]
  simp only [Option.toList, cnt, List.filter_append, List.length_append, List.filter_cons, List.filter_nil]
  split <;> simp_all
theorem cnt_le (voters some : List Int) : cnt voters some ≤ voters.length := List.length_filter_le _ _

theorem majority_any {h : Heap} {v1 v2 : Value} {voters some : List Int} (h1 : IntS h v1 voters) (h2 : IntS h v2 some) (hl1 : voters.length ≤ 4611686018427387903) (hl2 : some.length ≤ 9223372036854775807) :
    CallsH Try.prog 38 #[v1, v2] h fun r h' => r = .bool (decide (maj voters some)) ∧ h' = h := by
  obtain ⟨p, cap, rfl⟩ := h1.sl.shape
  refine CallsH.of (l := [_, _]) Try.func38 rfl Try.ntmps38 Try.results38 rfl ?_
  repeat' (first | (refine St.d ?_; first | (refine dk 0 ?_; refine St.move rfl ?_) | (refine dk 1 ?_; refine St.assign rfl ?_) | (refine dk 11 ?_; refine St.len pg rfl rfl rfl ?_)) | (refine OW.d ?_; refine dk 0 ?_; refine OW.step (gd_none rfl) rfl ?_) | (refine CW.d ?_; first | (refine dk 0 ?_; refine CW.seq ?_) | (refine dk 1 ?_; refine CW.region ?_) | (refine dk 7 ?_; refine CW.block ?_)) | refine OW.nil ?_ | refine PK.code_normal ?_ | fail | fail)
  refine CW.loop (fun i : Nat => [(0, .slice p voters.length cap), (1, v2), (8, .slice p voters.length cap), (9, .int .i64 voters.length), (10, .int .i64 i), (5, .int .i64 (cnt (voters.take i) some))]) (fun i h' => h' = h ∧ i ≤ voters.length) (fun i => voters.length - i) 0 (by (repeat (first | exact trivial | refine ⟨rfl, ?_⟩))) ⟨rfl, Nat.zero_le _⟩ ?_
  rintro i _ ⟨rfl, hle⟩
  have hcl := cnt_le (voters.take i) some
  rw [List.length_take] at hcl
  by_cases hi : i < voters.length
  · obtain ⟨y, hy⟩ : ∃ y, voters[i]? = Option.some y := ⟨voters[i], List.getElem?_eq_getElem hi⟩
    have hct := cnt_take (some := some) hy
    rcases h1.cases with h4 | ⟨b, o, cap', h3, _, _⟩
    · subst h4; simp at hi
    · simp only [Value.slice.injEq] at h3
      obtain ⟨rfl, _, rfl⟩ := h3
      have hc := h1.cel hy
      repeat' (first | (refine St.d ?_; first | (refine dk 0 ?_; refine St.move rfl ?_) | (refine dk 2 ?_; first | refine St.load pg rfl rfl rfl (by (first | assumption | exact Blk.cel (by (repeat (first | assumption | exact New.blk (by assumption) | exact Upd.blk (by assumption) | (apply New.old; assumption) | (apply Upd.keep; assumption; (focus (first | assumption | exact Ne.symm (by assumption) | omega | (intro hne; simp only at hne; omega)))) | (apply Stp.blk0; assumption) | (apply Stp.blk1; assumption; (focus (first | assumption | exact Ne.symm (by assumption) | omega | (intro hne; simp only at hne; omega))))))) (by rfl) | exact Cels.fld (by assumption) (by rfl) | exact Cels.fld0 (by assumption) (by rfl) | (repeat (first | assumption | (apply New.oldc; assumption) | (apply Upd.keepc; assumption; (focus (first | assumption | exact Ne.symm (by assumption) | omega | (intro hne; simp only at hne; omega)))) | (apply Stp.cel0; assumption))))) (by first | exact List.not_mem_nil | assumption) rfl ?_ | refine St.loadS pg rfl rfl rfl (by first | assumption | exact Blk.cels0 (by (repeat (first | assumption | exact New.blk (by assumption) | exact Upd.blk (by assumption) | (apply New.old; assumption) | (apply Upd.keep; assumption; (focus (first | assumption | exact Ne.symm (by assumption) | omega | (intro hne; simp only at hne; omega)))) | (apply Stp.blk0; assumption) | (apply Stp.blk1; assumption; (focus (first | assumption | exact Ne.symm (by assumption) | omega | (intro hne; simp only at hne; omega))))))) | (repeat (first | assumption | (apply Cels.newc; assumption) | (apply Cels.stpc; assumption) | (apply Cels.updc; assumption; (focus (first | assumption | exact Ne.symm (by assumption) | omega | (intro hne; simp only at hne; omega))))))) (by first | exact List.not_mem_nil | assumption) rfl rfl ?_ | fail) | (refine dk 1 ?_; refine St.assign rfl ?_) | (refine dk 23 ?_; first | refine St.call pg rfl rfl rfl ?_ | refine St.call0 pg rfl rfl rfl ?_ | refine St.callX pg rfl rfl rfl ?_ | fail) | (refine dk 14 ?_; refine St.lss rfl rfl ?_) | (refine dk 10 ?_; first | refine St.indexAddr1 pg rfl rfl rfl rfl rfl rfl rfl (by first | omega | decide | exact Nat.succ_pos _ | (show 0 < _; omega)) ?_ | refine St.indexAddr pg rfl rfl rfl rfl rfl rfl (by first | omega | decide | exact Nat.succ_pos _ | (show 0 < _; omega)) ?_ | refine St.indexAddrA1 pg rfl rfl rfl rfl rfl rfl rfl (by first | omega | decide) ?_ | refine St.indexAddrA pg rfl rfl rfl rfl rfl rfl (by first | omega | decide) ?_ | fail)) | (refine OW.d ?_; refine dk 0 ?_; refine OW.step (gd_none rfl) rfl ?_) | (refine CW.d ?_; first | (refine dk 0 ?_; refine CW.seq ?_) | (refine dk 1 ?_; refine CW.region ?_) | (refine dk 3 ?_; first | refine CW.cond_true rfl (by (first | rfl | assumption | exact decide_eq_true (by first | assumption | omega) | exact decide_eq_false (by first | assumption | exact not_not_intro (by assumption) | omega) | fail)) ?_ | refine CW.cond_false rfl (by (first | rfl | assumption | exact decide_eq_true (by first | assumption | omega) | exact decide_eq_false (by first | assumption | exact not_not_intro (by assumption) | omega) | fail)) ?_ | (refine CW.cond_dnot rfl ?_ ?_ <;> intro _ <;> try (exfalso; omega)) | (refine CW.cond_dec rfl ?_ ?_ <;> intro _ <;> try (exfalso; omega)) | (refine CW.cond rfl ?_ ?_ <;> intro _) | fail) | (refine dk 4 ?_; refine CW.skip ?_) | (refine dk 7 ?_; refine CW.block ?_)) | refine OW.nil ?_ | refine PK.code_normal ?_ | fail | fail)
      refine (has_any h2 hl2 y).mono ?_
      rintro _ _ ⟨rfl, rfl⟩
      repeat' (first | (refine St.d ?_; first | (refine dk 0 ?_; refine St.move rfl ?_) | (refine dk 1 ?_; refine St.assign rfl ?_) | (refine dk 18 ?_; refine St.add rfl rfl (by omega) ?_)) | (refine OW.d ?_; refine dk 0 ?_; refine OW.step (gd_none rfl) rfl ?_) | (refine CW.d ?_; first | (refine dk 1 ?_; refine CW.region ?_) | (refine dk 3 ?_; first | refine CW.cond_true rfl (by (first | rfl | assumption | exact decide_eq_true (by first | assumption | omega) | exact decide_eq_false (by first | assumption | exact not_not_intro (by assumption) | omega) | fail)) ?_ | refine CW.cond_false rfl (by (first | rfl | assumption | exact decide_eq_true (by first | assumption | omega) | exact decide_eq_false (by first | assumption | exact not_not_intro (by assumption) | omega) | fail)) ?_ | (refine CW.cond_dnot rfl ?_ ?_ <;> intro _ <;> try (exfalso; omega)) | (refine CW.cond_dec rfl ?_ ?_ <;> intro _ <;> try (exfalso; omega)) | (refine CW.cond rfl ?_ ?_ <;> intro _) | fail) | (refine dk 4 ?_; refine CW.skip ?_)) | refine OW.nil ?_ | refine PK.code_normal ?_ | refine PK.blk_normal ?_ | refine PK.lp_normal ?_ | fail | fail)
      all_goals
        rename_i hm
        refine ⟨i + 1, by rw [hct]; simp only [hm, if_true, if_false]; (repeat (first | exact trivial | refine ⟨rfl, ?_⟩)), ⟨rfl, hi⟩, by omega⟩
  · have : i = voters.length := by omega
    subst this
    rw [List.take_length] at hcl ⊢
    repeat' (first | (refine St.d ?_; first | (refine dk 0 ?_; refine St.move rfl ?_) | (refine dk 1 ?_; refine St.assign rfl ?_) | (refine dk 14 ?_; refine St.lss rfl rfl ?_) | (refine dk 11 ?_; refine St.len pg rfl rfl rfl ?_) | (refine dk 16 ?_; refine St.gtr rfl rfl ?_) | (refine dk 20 ?_; refine St.mul rfl rfl (by omega) ?_)) | (refine OW.d ?_; refine dk 0 ?_; refine OW.step (gd_none rfl) rfl ?_) | (refine CW.d ?_; first | (refine dk 0 ?_; refine CW.seq ?_) | (refine dk 1 ?_; refine CW.region ?_) | (refine dk 3 ?_; first | refine CW.cond_true rfl (by (first | rfl | assumption | exact decide_eq_true (by first | assumption | omega) | exact decide_eq_false (by first | assumption | exact not_not_intro (by assumption) | omega) | fail)) ?_ | refine CW.cond_false rfl (by (first | rfl | assumption | exact decide_eq_true (by first | assumption | omega) | exact decide_eq_false (by first | assumption | exact not_not_intro (by assumption) | omega) | fail)) ?_ | (refine CW.cond_dnot rfl ?_ ?_ <;> intro _ <;> try (exfalso; omega)) | (refine CW.cond_dec rfl ?_ ?_ <;> intro _ <;> try (exfalso; omega)) | (refine CW.cond rfl ?_ ?_ <;> intro _) | fail) | (refine dk 5 ?_; refine CW.ret ?_) | (refine dk 6 ?_; refine CW.exit ?_)) | refine OW.nil ?_ | refine PK.code_normal ?_ | refine PK.code_exit ?_ | refine PK.lp_exit ?_ | refine PK.blk_exit ?_ | refine PK.nil_ret ?_ | fail | fail)
    refine ⟨_, ResOK.one rfl, ?_, rfl⟩
    congr 1
    exact decide_eq_decide.2 (by unfold maj; omega)
end Go.Proofs.Ytdoefbnjehngmaa
