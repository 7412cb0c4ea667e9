/- Contracts of package stability: New, Hear, Take and what they use; conditions: what is known lies in the heap. -/
import Derived.Test.YtaopehadegknoaaKn
namespace Go.Proofs.Ytaopehadegknoaa
open Go Go.CF
set_option maxRecDepth 20000

/-! ### ContainsFunc over clocks -/
theorem clk_at2 {h : Heap} {F : Nat → Prop} {b o len cap : Nat} {l : List (List Int)} (hs : clks.R h F [.slice (some ⟨b, o, none⟩) len cap] l) {i : Nat} {c : List Int} (hi : l[i]? = some c) : ∃ v, Cel h ⟨b, o + i, none⟩ v ∧ CkV h v c := by
  obtain ⟨row, hr, hc⟩ := sliceR_cels hs hi
  obtain ⟨v, rfl, h1, _⟩ := CkV.ofR hr
  refine ⟨v, ?_, h1⟩
  have := hc.cell (j := 0) rfl
  simpa [Rp.slice] using this
theorem indexFunc_clks {h : Heap} {F : Nat → Prop} {v : Value} {l : List (List Int)} {fid : Nat} {cap0 : List Value} {p : List Int → Prop} [DecidablePred p] (hs : clks.R h F [v] l) (hen : en fid = true)
    (hf : ∀ w c, CkV h w c → CallsH Try.prog fid (w :: cap0).toArray h fun r h' => r = .bool (decide (p c)) ∧ h' = h) :
    CallsH Try.prog 92 #[v, .func (.func fid) #[] cap0.toArray] h fun r h' => (∃ i : Int, r = .int .i64 i ∧ (0 ≤ i ↔ ∃ c ∈ l, p c)) ∧ h' = h := by
  have hlm := sliceR_len hs
  obtain ⟨q, cap, he⟩ := sliceR_shape hs
  simp only [List.cons.injEq, and_true] at he
  subst he
  refine CallsH.of (l := [_, _]) Try.func92 rfl Try.ntmps92 Try.results92 rfl ?_
  repeat' (first | (refine St.d ?_; first | (refine dk 0 ?_; refine St.move rfl ?_) | (refine dk 1 ?_; refine St.assign rfl ?_) | (refine dk 11 ?_; refine St.len pg rfl rfl rfl ?_)) | (refine OW.d ?_; refine dk 0 ?_; refine OW.step (gd_none rfl) rfl ?_) | (refine CW.d ?_; first | (refine dk 0 ?_; refine CW.seq ?_) | (refine dk 1 ?_; refine CW.region ?_) | (refine dk 7 ?_; refine CW.block ?_)) | refine OW.nil ?_ | refine PK.code_normal ?_ | fail | fail)
  refine CW.loop (fun i : Nat => [(0, .slice q l.length cap), (1, .func (.func fid) #[] cap0.toArray), (7, .int .i64 l.length), (8, .int .i64 i)]) (fun i h' => h = h' ∧ i ≤ l.length ∧ ∀ c ∈ l.take i, ¬ p c) (fun i => l.length - i) 0 (by (repeat (first | exact trivial | refine ⟨rfl, ?_⟩))) ⟨rfl, Nat.zero_le _, by simp⟩ ?_
  rintro i _ ⟨rfl, hi, hall⟩
  by_cases hin : i < l.length
  · obtain ⟨c, hc⟩ : ∃ c, l[i]? = some c := ⟨_, List.getElem?_eq_getElem hin⟩
    obtain ⟨b, o, rfl, _, _, _, _⟩ := clks_val hs (by omega)
    obtain ⟨w, hcel, hw⟩ := clk_at2 hs hc
    obtain ⟨p1, cap1, rfl⟩ := hw.s.sl.shape
    have hcm := List.mem_of_getElem? hc
    repeat' (first | (refine St.d ?_; first | (refine dk 0 ?_; refine St.move rfl ?_) | (refine dk 2 ?_; first | refine St.load pg rfl rfl rfl (by (first | assumption | exact Blk.cel (by (repeat (first | assumption | exact New.blk (by assumption) | exact Upd.blk (by assumption) | (apply New.old; assumption) | (apply Upd.keep; assumption; (focus (first | assumption | exact Ne.symm (by assumption) | omega | (intro hne; simp only at hne; omega)))) | (apply Stp.blk0; assumption) | (apply Stp.blk1; assumption; (focus (first | assumption | exact Ne.symm (by assumption) | omega | (intro hne; simp only at hne; omega))))))) (by rfl) | exact Cels.fld (by assumption) (by rfl) | exact Cels.fld0 (by assumption) (by rfl) | (repeat (first | assumption | (apply New.oldc; assumption) | (apply Upd.keepc; assumption; (focus (first | assumption | exact Ne.symm (by assumption) | omega | (intro hne; simp only at hne; omega)))) | (apply Stp.cel0; assumption))))) (by first | exact List.not_mem_nil | assumption) rfl ?_ | refine St.loadS pg rfl rfl rfl (by first | assumption | exact Blk.cels0 (by (repeat (first | assumption | exact New.blk (by assumption) | exact Upd.blk (by assumption) | (apply New.old; assumption) | (apply Upd.keep; assumption; (focus (first | assumption | exact Ne.symm (by assumption) | omega | (intro hne; simp only at hne; omega)))) | (apply Stp.blk0; assumption) | (apply Stp.blk1; assumption; (focus (first | assumption | exact Ne.symm (by assumption) | omega | (intro hne; simp only at hne; omega)))))))) (by first | exact List.not_mem_nil | assumption) rfl rfl ?_ | fail) | (refine dk 1 ?_; refine St.assign rfl ?_) | (refine dk 14 ?_; refine St.lss rfl rfl ?_) | (refine dk 10 ?_; first | refine St.indexAddr1 pg rfl rfl rfl rfl rfl rfl rfl (by first | omega | decide | exact Nat.succ_pos _ | (show 0 < _; omega)) ?_ | refine St.indexAddr pg rfl rfl rfl rfl rfl rfl (by first | omega | decide | exact Nat.succ_pos _ | (show 0 < _; omega)) ?_ | refine St.indexAddrA1 pg rfl rfl rfl rfl rfl rfl rfl (by first | omega | decide) ?_ | fail)) | (refine OW.d ?_; refine dk 0 ?_; refine OW.step (gd_none rfl) rfl ?_) | (refine CW.d ?_; first | (refine dk 0 ?_; refine CW.seq ?_) | (refine dk 1 ?_; refine CW.region ?_) | (refine dk 3 ?_; first | refine CW.cond_true rfl (by (first | rfl | assumption | exact decide_eq_true (by first | assumption | omega) | exact decide_eq_false (by first | assumption | exact not_not_intro (by assumption) | omega) | fail)) ?_ | refine CW.cond_false rfl (by (first | rfl | assumption | exact decide_eq_true (by first | assumption | omega) | exact decide_eq_false (by first | assumption | exact not_not_intro (by assumption) | omega) | fail)) ?_ | (refine CW.cond_dnot rfl ?_ ?_ <;> intro _ <;> try (exfalso; omega)) | (refine CW.cond_dec rfl ?_ ?_ <;> intro _ <;> try (exfalso; omega)) | (refine CW.cond rfl ?_ ?_ <;> intro _) | fail) | (refine dk 4 ?_; refine CW.skip ?_) | (refine dk 7 ?_; refine CW.block ?_)) | refine OW.nil ?_ | refine PK.code_normal ?_ | fail | fail)
    refine St.d ?_
    refine dk 24 ?_
    refine St.callT pg (first := []) (cap := cap0) rfl rfl hen rfl ?_
    refine (hf _ c hw).same ?_
    repeat' (first | (refine St.d ?_; first | (refine dk 0 ?_; refine St.move rfl ?_) | (refine dk 1 ?_; refine St.assign rfl ?_) | (refine dk 18 ?_; refine St.add rfl rfl (by omega) ?_)) | (refine OW.d ?_; refine dk 0 ?_; refine OW.step (gd_none rfl) rfl ?_) | (refine CW.d ?_; first | (refine dk 0 ?_; refine CW.seq ?_) | (refine dk 1 ?_; refine CW.region ?_) | (refine dk 3 ?_; first | refine CW.cond_true rfl (by (first | rfl | assumption | exact decide_eq_true (by first | assumption | omega) | exact decide_eq_false (by first | assumption | exact not_not_intro (by assumption) | omega) | fail)) ?_ | refine CW.cond_false rfl (by (first | rfl | assumption | exact decide_eq_true (by first | assumption | omega) | exact decide_eq_false (by first | assumption | exact not_not_intro (by assumption) | omega) | fail)) ?_ | (refine CW.cond_dnot rfl ?_ ?_ <;> intro _ <;> try (exfalso; omega)) | (refine CW.cond_dec rfl ?_ ?_ <;> intro _ <;> try (exfalso; omega)) | (refine CW.cond rfl ?_ ?_ <;> intro _) | fail) | (refine dk 4 ?_; refine CW.skip ?_) | (refine dk 5 ?_; refine CW.ret ?_)) | refine OW.nil ?_ | refine PK.code_normal ?_ | refine PK.blk_normal ?_ | refine PK.lp_normal ?_ | refine PK.code_ret ?_ | refine PK.blk_ret ?_ | refine PK.lp_ret ?_ | refine PK.nil_ret ?_ | fail | fail)
    · rename_i hp
      exact ⟨_, ResOK.one rfl, ⟨_, rfl, ⟨fun _ => ⟨c, hcm, hp⟩, fun _ => by omega⟩⟩, rfl⟩
    · rename_i hp
      refine ⟨i + 1, by (repeat (first | exact trivial | refine ⟨rfl, ?_⟩)), ⟨rfl, hin, fun x hx => ?_⟩, by omega⟩
      rw [List.take_add_one, hc] at hx
      rcases List.mem_append.1 hx with h1 | h1
      · exact hall x h1
      · simp at h1; subst h1; exact hp
  · have : i = l.length := by omega
    subst this
    rw [List.take_length] at hall
    repeat' (first | (refine St.d ?_; first | (refine dk 1 ?_; refine St.assign rfl ?_) | (refine dk 14 ?_; refine St.lss rfl rfl ?_)) | (refine OW.d ?_; refine dk 0 ?_; refine OW.step (gd_none rfl) rfl ?_) | (refine CW.d ?_; first | (refine dk 0 ?_; refine CW.seq ?_) | (refine dk 1 ?_; refine CW.region ?_) | (refine dk 3 ?_; first | refine CW.cond_true rfl (by (first | rfl | assumption | exact decide_eq_true (by first | assumption | omega) | exact decide_eq_false (by first | assumption | exact not_not_intro (by assumption) | omega) | fail)) ?_ | refine CW.cond_false rfl (by (first | rfl | assumption | exact decide_eq_true (by first | assumption | omega) | exact decide_eq_false (by first | assumption | exact not_not_intro (by assumption) | omega) | fail)) ?_ | (refine CW.cond_dnot rfl ?_ ?_ <;> intro _ <;> try (exfalso; omega)) | (refine CW.cond_dec rfl ?_ ?_ <;> intro _ <;> try (exfalso; omega)) | (refine CW.cond rfl ?_ ?_ <;> intro _) | fail) | (refine dk 5 ?_; refine CW.ret ?_) | (refine dk 6 ?_; refine CW.exit ?_)) | refine OW.nil ?_ | refine PK.code_normal ?_ | refine PK.code_exit ?_ | refine PK.lp_exit ?_ | refine PK.blk_exit ?_ | refine PK.nil_ret ?_ | fail | fail)
    refine ⟨_, ResOK.one rfl, ⟨-1, rfl, ⟨fun h => by omega, fun ⟨c, hc, hp⟩ => absurd hp (hall c hc)⟩⟩, rfl⟩
theorem containsFunc_clks {h : Heap} {F : Nat → Prop} {v : Value} {l : List (List Int)} {fid : Nat} {cap0 : List Value} {p : List Int → Prop} [DecidablePred p] (hs : clks.R h F [v] l) (hen : en fid = true)
    (hf : ∀ w c, CkV h w c → CallsH Try.prog fid (w :: cap0).toArray h fun r h' => r = .bool (decide (p c)) ∧ h' = h) :
    CallsH Try.prog 70 #[v, .func (.func fid) #[] cap0.toArray] h fun r h' => r = .bool (decide (∃ c ∈ l, p c)) ∧ h' = h := by
  refine CallsH.of (l := [_, _]) Try.func70 rfl Try.ntmps70 Try.results70 rfl ?_
  repeat' (first | (refine St.d ?_; first | (refine dk 0 ?_; refine St.move rfl ?_) | (refine dk 1 ?_; refine St.assign rfl ?_) | (refine dk 23 ?_; first | refine St.call pg rfl rfl rfl ?_ | refine St.call0 pg rfl rfl rfl ?_ | refine St.callX pg rfl rfl rfl ?_ | fail)) | (refine OW.d ?_; refine dk 0 ?_; refine OW.step (gd_none rfl) rfl ?_) | (refine CW.d ?_; first | (refine dk 0 ?_; refine CW.seq ?_) | (refine dk 1 ?_; refine CW.region ?_)) | refine OW.nil ?_ | refine PK.code_normal ?_ | fail | fail)
  refine (indexFunc_clks hs hen hf).mono ?_
  rintro _ _ ⟨⟨i, rfl, hi⟩, rfl⟩
  repeat' (first | (refine St.d ?_; first | (refine dk 1 ?_; refine St.assign rfl ?_) | (refine dk 17 ?_; refine St.geq rfl rfl ?_)) | (refine OW.d ?_; refine dk 0 ?_; refine OW.step (gd_none rfl) rfl ?_) | (refine CW.d ?_; first | (refine dk 5 ?_; refine CW.ret ?_)) | refine OW.nil ?_ | refine PK.code_normal ?_ | refine PK.nil_ret ?_ | fail | fail)
  refine ⟨_, ResOK.one rfl, ?_, rfl⟩
  congr 1
  exact decide_eq_decide.2 hi

/-! ### New -/
theorem new_known_bad {h : Heap} {n : Int} (hn : ¬ (1 ≤ n ∧ n ≤ 5)) : CallsH Try.prog 28 #[.int .i64 n] h fun r h' => r = .tuple #[.pointer none, .int .i64 1] ∧ h' = h := by
  refine CallsH.of (l := [_]) Try.func28 rfl Try.ntmps28 Try.results28 rfl ?_
  repeat' (first | (refine St.d ?_; first | (refine dk 0 ?_; refine St.move rfl ?_) | (refine dk 1 ?_; refine St.assign rfl ?_) | (refine dk 23 ?_; first | refine St.call pg rfl rfl rfl ?_ | refine St.call0 pg rfl rfl rfl ?_ | refine St.callX pg rfl rfl rfl ?_ | fail)) | (refine OW.d ?_; refine dk 0 ?_; refine OW.step (gd_none rfl) rfl ?_) | (refine CW.d ?_; first | (refine dk 0 ?_; refine CW.seq ?_) | (refine dk 1 ?_; refine CW.region ?_)) | refine OW.nil ?_ | refine PK.code_normal ?_ | refine RW.step rfl (gd_none rfl) rfl ?_ | fail)
  refine (zero_bad hn).same ?_
  repeat' (first | (refine St.d ?_; first | (refine dk 1 ?_; refine St.assign rfl ?_) | (refine dk 12 ?_; first | refine St.eql rfl rfl ?_ | refine St.eql_pnil pg rfl rfl rfl rfl ?_ | refine St.eql_snil pg rfl rfl rfl rfl ?_ | refine St.beql pg rfl rfl rfl rfl ?_ | fail)) | (refine OW.d ?_; refine dk 0 ?_; refine OW.step (gd_none rfl) rfl ?_) | (refine CW.d ?_; first | (refine dk 0 ?_; refine CW.seq ?_) | (refine dk 1 ?_; refine CW.region ?_) | (refine dk 3 ?_; first | refine CW.cond_true rfl (by (first | rfl | assumption | exact decide_eq_true (by first | assumption | omega) | exact decide_eq_false (by first | assumption | exact not_not_intro (by assumption) | omega) | fail)) ?_ | refine CW.cond_false rfl (by (first | rfl | assumption | exact decide_eq_true (by first | assumption | omega) | exact decide_eq_false (by first | assumption | exact not_not_intro (by assumption) | omega) | fail)) ?_ | (refine CW.cond_dnot rfl ?_ ?_ <;> intro _ <;> try (exfalso; omega)) | (refine CW.cond_dec rfl ?_ ?_ <;> intro _ <;> try (exfalso; omega)) | (refine CW.cond rfl ?_ ?_ <;> intro _) | fail) | (refine dk 5 ?_; refine CW.ret ?_)) | refine OW.nil ?_ | refine PK.code_normal ?_ | refine PK.code_ret ?_ | refine PK.nil_ret ?_ | refine RW.step rfl (gd_none rfl) rfl ?_ | fail)
  exact ⟨_, ResOK.two rfl rfl, rfl, rfl⟩

theorem nils_set {n j : Nat} {vs : List Value} {w : Value} (hj : j < n) (hv : vs.length = j) (hn : n ≤ 5) : (Value.int .i64 n :: (vs ++ nils (5 - j))).set (1 + j) w = Value.int .i64 n :: ((vs ++ [w]) ++ nils (5 - (j + 1))) := by
  rw [Nat.add_comm, List.set_cons_succ]
  have : nils (5 - j) = .slice none 0 0 :: nils (5 - (j + 1)) := by
    rw [show 5 - j = (5 - (j + 1)) + 1 by omega]; rfl
  rw [this, List.set_append_right _ _ (by omega), hv, Nat.sub_self]
  simp

set_option maxHeartbeats 1000000 in
theorem new_known {h : Heap} {n : Nat} (hn : 1 ≤ n ∧ n ≤ 5) :
    CallsH Try.prog 28 #[.int .i64 n] h fun r h' => ∃ K, r = .tuple #[.pointer (some ⟨K, 0, none⟩), .int .i64 0] ∧ (∀ S0 : List Nat, (∀ b ∈ S0, b < h.size) → KnAt h' K n (List.replicate n (List.replicate n 0)) (K :: S0)) ∧ Stp [] h h' ∧ h.size ≤ K := by
  refine CallsH.of (l := [_]) Try.func28 rfl Try.ntmps28 Try.results28 rfl ?_
  repeat' (first | (refine St.d ?_; first | (refine dk 0 ?_; refine St.move rfl ?_) | (refine dk 1 ?_; refine St.assign rfl ?_) | (refine dk 23 ?_; first | refine St.call pg rfl rfl rfl ?_ | refine St.call0 pg rfl rfl rfl ?_ | refine St.callX pg rfl rfl rfl ?_ | fail)) | (refine OW.d ?_; refine dk 0 ?_; refine OW.step (gd_none rfl) rfl ?_) | (refine CW.d ?_; first | (refine dk 0 ?_; refine CW.seq ?_) | (refine dk 1 ?_; refine CW.region ?_)) | refine OW.nil ?_ | refine PK.code_normal ?_ | refine RW.step rfl (gd_none rfl) rfl ?_ | fail)
  refine (zero_any hn).mono ?_
  rintro zv h1 ⟨hz, hst1, hzn⟩
  rcases hz.ok with ⟨_, h0⟩ | ⟨zb, zo, zcap, zl, rfl, _, _, _, _⟩
  · omega
  repeat' (first | (refine St.d ?_; first | (refine dk 0 ?_; refine St.move rfl ?_) | (refine dk 1 ?_; refine St.assign rfl ?_) | (refine dk 12 ?_; first | refine St.eql rfl rfl ?_ | refine St.eql_pnil pg rfl rfl rfl rfl ?_ | refine St.eql_snil pg rfl rfl rfl rfl ?_ | refine St.beql pg rfl rfl rfl rfl ?_ | fail) | (refine dk 31 ?_; refine St.box rfl rfl rfl ?_; intro _ _ _ _ _) | (refine dk 28 ?_; refine St.build pg rfl rfl rfl rfl rfl (by (repeat (first | exact Fill.nil | (apply Fill.one; rfl; rfl; (focus (first | exact SetL.set (by assumption) | (repeat (first | exact SetL.z | apply SetL.s))))) | (apply Fill.agg; rfl; rfl; (focus (repeat (first | exact SetR.z | (apply SetR.c; (focus (first | exact SetL.set (by assumption) | (repeat (first | exact SetL.z | apply SetL.s)))))))))))) ?_)) | (refine OW.d ?_; refine dk 0 ?_; refine OW.step (gd_none rfl) rfl ?_) | (refine CW.d ?_; first | (refine dk 0 ?_; refine CW.seq ?_) | (refine dk 1 ?_; refine CW.region ?_) | (refine dk 3 ?_; first | refine CW.cond_true rfl (by (first | rfl | assumption | exact decide_eq_true (by first | assumption | omega) | exact decide_eq_false (by first | assumption | exact not_not_intro (by assumption) | omega) | fail)) ?_ | refine CW.cond_false rfl (by (first | rfl | assumption | exact decide_eq_true (by first | assumption | omega) | exact decide_eq_false (by first | assumption | exact not_not_intro (by assumption) | omega) | fail)) ?_ | (refine CW.cond_dnot rfl ?_ ?_ <;> intro _ <;> try (exfalso; omega)) | (refine CW.cond_dec rfl ?_ ?_ <;> intro _ <;> try (exfalso; omega)) | (refine CW.cond rfl ?_ ?_ <;> intro _) | fail) | (refine dk 4 ?_; refine CW.skip ?_) | (refine dk 7 ?_; refine CW.block ?_)) | refine OW.nil ?_ | refine PK.code_normal ?_ | refine RW.step rfl (gd_none rfl) rfl ?_ | fail)
  rename_i K h2 hn2 eK z2
  have hK : Blk h2 K 131 (.int .i64 n :: ([] ++ nils (5 - 0))) := hn2.blk
  have hst2 := hst1.trans (hn2.stp (fp := []))
  have hz1 := hst1.size
  have hvz : vld (List.replicate n 0) := ⟨fun x hx => by rw [List.eq_of_mem_replicate hx]; omega, by simp; omega⟩
  refine CW.loop (fun j : Nat => [(0, .int .i64 n), (4, .pointer (some ⟨K, 0, none⟩)), (12, .int .i64 n), (13, .int .i64 j)])
    (fun j h3 => j ≤ n ∧ (∃ vs : List Value, vs.length = j ∧ Blk h3 K 131 (.int .i64 n :: (vs ++ nils (5 - j))) ∧ ∀ w ∈ vs, IntS h3 w (List.replicate n 0) ∧ ∀ b ∈ rdOf w, b ≠ K ∧ h.size ≤ b) ∧ Stp [] h h3 ∧ K < h3.size) (fun j => n - j) 0 (by (repeat (first | exact trivial | refine ⟨rfl, ?_⟩)))
    ⟨Nat.zero_le _, ⟨[], rfl, hK, by simp⟩, hst2, hK.lt⟩ ?_
  rintro j h3 ⟨hj, ⟨vs, hvl, hb, hall⟩, hst3, hKl⟩
  by_cases hjn : j < n
  · repeat' (first | (refine St.d ?_; first | (refine dk 0 ?_; refine St.move rfl ?_) | (refine dk 4 ?_; first | refine St.fieldAddr0 pg rfl rfl rfl rfl ?_ | refine St.fieldAddr pg rfl rfl rfl rfl ?_ | fail) | (refine dk 1 ?_; refine St.assign rfl ?_) | (refine dk 5 ?_; refine St.nilCheck rfl ?_) | (refine dk 23 ?_; first | refine St.call pg rfl rfl rfl ?_ | refine St.call0 pg rfl rfl rfl ?_ | refine St.callX pg rfl rfl rfl ?_ | fail) | (refine dk 14 ?_; refine St.lss rfl rfl ?_)) | (refine OW.d ?_; refine dk 0 ?_; refine OW.step (gd_none rfl) rfl ?_) | (refine CW.d ?_; first | (refine dk 0 ?_; refine CW.seq ?_) | (refine dk 1 ?_; refine CW.region ?_) | (refine dk 3 ?_; first | refine CW.cond_true rfl (by (first | rfl | assumption | exact decide_eq_true (by first | assumption | omega) | exact decide_eq_false (by first | assumption | exact not_not_intro (by assumption) | omega) | fail)) ?_ | refine CW.cond_false rfl (by (first | rfl | assumption | exact decide_eq_true (by first | assumption | omega) | exact decide_eq_false (by first | assumption | exact not_not_intro (by assumption) | omega) | fail)) ?_ | (refine CW.cond_dnot rfl ?_ ?_ <;> intro _ <;> try (exfalso; omega)) | (refine CW.cond_dec rfl ?_ ?_ <;> intro _ <;> try (exfalso; omega)) | (refine CW.cond rfl ?_ ?_ <;> intro _) | fail) | (refine dk 4 ?_; refine CW.skip ?_) | (refine dk 7 ?_; refine CW.block ?_)) | refine OW.nil ?_ | refine PK.code_normal ?_ | refine RW.step rfl (gd_none rfl) rfl ?_ | (refine CW.d ?_; refine dk 2 ?_; refine CW.region_draw [] ord28 pg.mix (by kernel_rfl) (by kernel_rfl) ?_) | fail)
    refine (zero_any hn).mono ?_
    rintro wv h4 ⟨hw, hst4, hwn⟩
    obtain ⟨p, cap, rfl⟩ := hw.sl.shape
    have hb4 := hst4.blk0 hb
    have hLl : 1 + j < (Value.int .i64 n :: (vs ++ nils (5 - j))).length := by simp [nils]; omega
    have hw0 : IntS h4 (.slice p n cap) (List.replicate n 0) := ⟨by have := hw.sl; simpa using this⟩
    have hz3 := hst3.size
    have hz4 := hst4.size
    repeat' (first | (refine St.d ?_; first | (refine dk 0 ?_; refine St.move rfl ?_) | (refine dk 3 ?_; first | (refine St.store pg rfl rfl rfl rfl rfl (by (repeat (first | assumption | exact New.blk (by assumption) | exact Upd.blk (by assumption) | (apply New.old; assumption) | (apply Upd.keep; assumption; (focus (first | assumption | exact Ne.symm (by assumption) | omega | (intro hne; simp only at hne; omega)))) | (apply Stp.blk0; assumption) | (apply Stp.blk1; assumption; (focus (first | assumption | exact Ne.symm (by assumption) | omega | (intro hne; simp only at hne; omega))))))) (by (first | exact SetL.set (by assumption) | (repeat (first | exact SetL.z | apply SetL.s)))) rfl ?_; intro _ _ _) | (refine St.storeS pg rfl rfl rfl rfl (by simp) (by first | (simp [Value.oneCell', *]; done) | (intro u hu; simp only [List.mem_cons, List.not_mem_nil, or_false] at hu; repeat' (first | (rcases hu with rfl | hu; first | rfl | assumption) | (subst hu; first | rfl | assumption)))) (by (repeat (first | assumption | exact New.blk (by assumption) | exact Upd.blk (by assumption) | (apply New.old; assumption) | (apply Upd.keep; assumption; (focus (first | assumption | exact Ne.symm (by assumption) | omega | (intro hne; simp only at hne; omega)))) | (apply Stp.blk0; assumption) | (apply Stp.blk1; assumption; (focus (first | assumption | exact Ne.symm (by assumption) | omega | (intro hne; simp only at hne; omega))))))) (by (repeat (first | exact SetR.z | (apply SetR.c; (focus (first | exact SetL.set (by assumption) | (repeat (first | exact SetL.z | apply SetL.s)))))))) rfl ?_; intro _ _ _) | fail) | (refine dk 18 ?_; refine St.add rfl rfl (by omega) ?_) | (refine dk 10 ?_; first | refine St.indexAddr1 pg rfl rfl rfl rfl rfl rfl rfl (by first | omega | decide | exact Nat.succ_pos _ | (show 0 < _; omega)) ?_ | refine St.indexAddr pg rfl rfl rfl rfl rfl rfl (by first | omega | decide | exact Nat.succ_pos _ | (show 0 < _; omega)) ?_ | refine St.indexAddrA1 pg rfl rfl rfl rfl rfl rfl rfl (by first | omega | decide) ?_ | fail)) | (refine OW.d ?_; refine dk 0 ?_; refine OW.step (gd_none rfl) rfl ?_) | (refine CW.d ?_; first | (refine dk 1 ?_; refine CW.region ?_)) | refine OW.nil ?_ | refine PK.code_normal ?_ | refine PK.blk_normal ?_ | refine PK.lp_normal ?_ | refine RW.done ?_ | refine RW.step rfl (gd_none rfl) rfl ?_ | (refine CW.d ?_; refine dk 2 ?_; refine CW.region_draw [] ord28 pg.mix (by kernel_rfl) (by kernel_rfl) ?_) | fail)
    rename_i h5 hu z5
    have hb5 := hu.blk
    rw [nils_set hjn hvl hn.2] at hb5
    have hst5 : Stp [] h h5 := Stp.upd hu (hst3.trans hst4) (.inr (by omega))
    refine ⟨j + 1, by (repeat (first | exact trivial | refine ⟨rfl, ?_⟩)), ⟨hjn, ⟨vs ++ [.slice p n cap], by simp [hvl], hb5, fun w hwm => ?_⟩, hst5, by omega⟩, by omega⟩
    rcases List.mem_append.1 hwm with h6 | h6
    · obtain ⟨h7, h8⟩ := hall w h6
      exact ⟨(h7.stp hst4 (by simp)).stp hu.stp (fun b hb hm => by simp at hm; exact (h8 b hb).1 hm), h8⟩
    · simp only [List.mem_singleton] at h6
      subst h6
      have h9 : ∀ b ∈ rdOf (.slice p n cap), b ≠ K ∧ h.size ≤ b := fun b hb => by
        have := hwn b (rdOf_blk hb)
        omega
      exact ⟨hw0.stp hu.stp (fun b hb hm => by simp at hm; exact (h9 b hb).1 hm), h9⟩
  · have : j = n := by omega
    subst this
    repeat' (first | (refine St.d ?_; first | (refine dk 0 ?_; refine St.move rfl ?_) | (refine dk 1 ?_; refine St.assign rfl ?_) | (refine dk 14 ?_; refine St.lss rfl rfl ?_)) | (refine OW.d ?_; refine dk 0 ?_; refine OW.step (gd_none rfl) rfl ?_) | (refine CW.d ?_; first | (refine dk 0 ?_; refine CW.seq ?_) | (refine dk 1 ?_; refine CW.region ?_) | (refine dk 3 ?_; first | refine CW.cond_true rfl (by (first | rfl | assumption | exact decide_eq_true (by first | assumption | omega) | exact decide_eq_false (by first | assumption | exact not_not_intro (by assumption) | omega) | fail)) ?_ | refine CW.cond_false rfl (by (first | rfl | assumption | exact decide_eq_true (by first | assumption | omega) | exact decide_eq_false (by first | assumption | exact not_not_intro (by assumption) | omega) | fail)) ?_ | (refine CW.cond_dnot rfl ?_ ?_ <;> intro _ <;> try (exfalso; omega)) | (refine CW.cond_dec rfl ?_ ?_ <;> intro _ <;> try (exfalso; omega)) | (refine CW.cond rfl ?_ ?_ <;> intro _) | fail) | (refine dk 5 ?_; refine CW.ret ?_) | (refine dk 6 ?_; refine CW.exit ?_)) | refine OW.nil ?_ | refine PK.code_normal ?_ | refine PK.code_exit ?_ | refine PK.lp_exit ?_ | refine PK.blk_exit ?_ | refine PK.nil_ret ?_ | refine RW.step rfl (gd_none rfl) rfl ?_ | fail)
    refine ⟨_, ResOK.two rfl rfl, K, rfl, fun S0 hS0 => ⟨⟨vs, hvl, hb, fun i c w hc hw => ?_⟩, by simp, hn, fun c hc => ?_, by simp⟩, hst3, by omega⟩
    · have h5 := hall w (List.mem_of_getElem? hw)
      rw [List.getElem?_replicate] at hc
      split at hc
      · cases hc
        refine ⟨h5.1, fun b hb hm => ?_⟩
        have h6 := h5.2 b hb
        rcases List.mem_cons.1 hm with h7 | h7
        · exact h6.1 h7
        · have := hS0 b h7
          omega
      · cases hc
    · rw [List.eq_of_mem_replicate hc]
      exact ⟨hvz, by simp⟩

/-! ### Hear -/
def hear (n : Nat) (rows : List (List Int)) (e : EvS) : List (List Int) × Int :=
  if formedE e ∧ e.past.length = n then learn n rows e.rep (e.past.set e.rep.toNat (max e.at_ e.num)) else (rows, 1)
set_option maxHeartbeats 1000000 in
theorem hear_any {h : Heap} {K n : Nat} {rows : List (List Int)} {S : List Nat} (k : KnAt h K n rows S) {e : EvS} {pe : Value} (hp : CkV h pe e.past) (hS : ∀ b ∈ S, b < h.size) :
    CallsH Try.prog 32 #[.pointer (some ⟨K, 0, none⟩), .agg (evV e pe).toArray] h fun x h' => x = .int .i64 (hear n rows e).2 ∧ KnAt h' K n (hear n rows e).1 S ∧ Stp [K] h h' := by
  obtain ⟨pp, pcap, rfl⟩ := hp.s.sl.shape
  refine CallsH.of (l := [_, _]) Try.func32 rfl Try.ntmps32 Try.results32 rfl ?_
  repeat' (first | (refine St.d ?_; first | (refine dk 1 ?_; refine St.assign rfl ?_) | (refine dk 31 ?_; refine St.box rfl rfl rfl ?_; intro _ _ _ _ _)) | (refine OW.d ?_; refine dk 0 ?_; refine OW.step (gd_none rfl) rfl ?_) | (refine CW.d ?_; first | (refine dk 0 ?_; refine CW.seq ?_) | (refine dk 1 ?_; refine CW.region ?_)) | refine OW.nil ?_ | refine RW.step rfl (gd_none rfl) rfl ?_ | refine RW.step rfl (gd_yes rfl rfl rfl (by (first | rfl | assumption | exact decide_eq_true (by first | assumption | omega) | exact decide_eq_false (by first | assumption | exact not_not_intro (by assumption) | omega) | fail))) rfl ?_ | refine RW.pass rfl (gd_no rfl rfl rfl (by (first | rfl | assumption | exact decide_eq_true (by first | assumption | omega) | exact decide_eq_false (by first | assumption | exact not_not_intro (by assumption) | omega) | fail))) rfl ?_ | refine RW.pass rfl (gd_undef rfl rfl rfl) rfl ?_ | (refine RW.split_dnot rfl rfl rfl rfl ?_ ?_ <;> intro _ <;> try (exfalso; omega)) | (refine RW.split_dec rfl rfl rfl rfl ?_ ?_ <;> intro _ <;> try (exfalso; omega)) | (refine RW.split rfl rfl rfl rfl ?_ ?_ <;> intro _) | fail)
  rename_i E h1 hn1 eE z1
  have hE : Blk h1 E 78 (evV e (.slice pp e.past.length pcap)) := hn1.blk
  have hst1 : Stp [] h h1 := hn1.stp
  have hp1 := hp.grow hst1
  have k1 := k.grow hst1
  have hnum := k1.num
  have hEl := hE.lt
  clear hn1
  simp only [evV] at hE
  repeat' (first | (refine St.d ?_; first | (refine dk 2 ?_; first | refine St.load pg rfl rfl rfl (by (first | assumption | exact Blk.cel (by (repeat (first | assumption | exact New.blk (by assumption) | exact Upd.blk (by assumption) | (apply New.old; assumption) | (apply Upd.keep; assumption; (focus (first | assumption | exact Ne.symm (by assumption) | omega | (intro hne; simp only at hne; omega)))) | (apply Stp.blk0; assumption) | (apply Stp.blk1; assumption; (focus (first | assumption | exact Ne.symm (by assumption) | omega | (intro hne; simp only at hne; omega))))))) (by rfl) | exact Cels.fld (by assumption) (by rfl) | exact Cels.fld0 (by assumption) (by rfl) | (repeat (first | assumption | (apply New.oldc; assumption) | (apply Upd.keepc; assumption; (focus (first | assumption | exact Ne.symm (by assumption) | omega | (intro hne; simp only at hne; omega)))) | (apply Stp.cel0; assumption))))) (by first | exact List.not_mem_nil | assumption) rfl ?_ | refine St.loadS pg rfl rfl rfl (by first | assumption | exact Blk.cels0 (by (repeat (first | assumption | exact New.blk (by assumption) | exact Upd.blk (by assumption) | (apply New.old; assumption) | (apply Upd.keep; assumption; (focus (first | assumption | exact Ne.symm (by assumption) | omega | (intro hne; simp only at hne; omega)))) | (apply Stp.blk0; assumption) | (apply Stp.blk1; assumption; (focus (first | assumption | exact Ne.symm (by assumption) | omega | (intro hne; simp only at hne; omega)))))))) (by first | exact List.not_mem_nil | assumption) rfl rfl ?_ | fail) | (refine dk 23 ?_; first | refine St.call pg rfl rfl rfl ?_ | refine St.call0 pg rfl rfl rfl ?_ | refine St.callX pg rfl rfl rfl ?_ | fail)) | (refine OW.d ?_; refine dk 0 ?_; refine OW.step (gd_none rfl) rfl ?_) | (refine CW.d ?_; first | (refine dk 0 ?_; refine CW.seq ?_)) | refine PK.code_normal ?_ | refine RW.step rfl (gd_none rfl) rfl ?_ | refine RW.step rfl (gd_yes rfl rfl rfl (by (first | rfl | assumption | exact decide_eq_true (by first | assumption | omega) | exact decide_eq_false (by first | assumption | exact not_not_intro (by assumption) | omega) | fail))) rfl ?_ | refine RW.pass rfl (gd_no rfl rfl rfl (by (first | rfl | assumption | exact decide_eq_true (by first | assumption | omega) | exact decide_eq_false (by first | assumption | exact not_not_intro (by assumption) | omega) | fail))) rfl ?_ | refine RW.pass rfl (gd_undef rfl rfl rfl) rfl ?_ | (refine RW.split_dnot rfl rfl rfl rfl ?_ ?_ <;> intro _ <;> try (exfalso; omega)) | (refine RW.split_dec rfl rfl rfl rfl ?_ ?_ <;> intro _ <;> try (exfalso; omega)) | (refine RW.split rfl rfl rfl rfl ?_ ?_ <;> intro _) | (refine CW.d ?_; refine dk 2 ?_; refine CW.region_draw [] ord32 pg.mix (by kernel_rfl) (by kernel_rfl) ?_) | fail)
  refine (formed_any hp1.s hp1.l).mono ?_
  rintro _ h2 ⟨rfl, hst2⟩
  have k2 := k1.grow hst2
  have hE2 := hst2.blk0 hE
  have hnum2 := k2.num
  have hp2 := hp1.grow hst2
  have hst02 := hst1.trans hst2
  clear hE hnum
  repeat' (first | (refine St.d ?_; first | (refine dk 0 ?_; refine St.move rfl ?_) | (refine dk 4 ?_; first | refine St.fieldAddr0 pg rfl rfl rfl rfl ?_ | refine St.fieldAddr pg rfl rfl rfl rfl ?_ | fail) | (refine dk 2 ?_; first | refine St.load pg rfl rfl rfl (by (first | assumption | exact Blk.cel (by (repeat (first | assumption | exact New.blk (by assumption) | exact Upd.blk (by assumption) | (apply New.old; assumption) | (apply Upd.keep; assumption; (focus (first | assumption | exact Ne.symm (by assumption) | omega | (intro hne; simp only at hne; omega)))) | (apply Stp.blk0; assumption) | (apply Stp.blk1; assumption; (focus (first | assumption | exact Ne.symm (by assumption) | omega | (intro hne; simp only at hne; omega))))))) (by rfl) | exact Cels.fld (by assumption) (by rfl) | exact Cels.fld0 (by assumption) (by rfl) | (repeat (first | assumption | (apply New.oldc; assumption) | (apply Upd.keepc; assumption; (focus (first | assumption | exact Ne.symm (by assumption) | omega | (intro hne; simp only at hne; omega)))) | (apply Stp.cel0; assumption))))) (by first | exact List.not_mem_nil | assumption) rfl ?_ | refine St.loadS pg rfl rfl rfl (by first | assumption | exact Blk.cels0 (by (repeat (first | assumption | exact New.blk (by assumption) | exact Upd.blk (by assumption) | (apply New.old; assumption) | (apply Upd.keep; assumption; (focus (first | assumption | exact Ne.symm (by assumption) | omega | (intro hne; simp only at hne; omega)))) | (apply Stp.blk0; assumption) | (apply Stp.blk1; assumption; (focus (first | assumption | exact Ne.symm (by assumption) | omega | (intro hne; simp only at hne; omega)))))))) (by first | exact List.not_mem_nil | assumption) rfl rfl ?_ | fail) | (refine dk 1 ?_; refine St.assign rfl ?_) | (refine dk 5 ?_; refine St.nilCheck rfl ?_) | (refine dk 23 ?_; first | refine St.call pg rfl rfl rfl ?_ | refine St.call0 pg rfl rfl rfl ?_ | refine St.callX pg rfl rfl rfl ?_ | fail) | (refine dk 6 ?_; first | refine St.pick_true rfl (by (first | rfl | assumption | exact decide_eq_true (by first | assumption | omega) | exact decide_eq_false (by first | assumption | exact not_not_intro (by assumption) | omega) | fail)) rfl ?_ | refine St.pick_false rfl (by (first | rfl | assumption | exact decide_eq_true (by first | assumption | omega) | exact decide_eq_false (by first | assumption | exact not_not_intro (by assumption) | omega) | fail)) rfl ?_ | fail) | (refine dk 13 ?_; first | refine St.neq rfl rfl ?_ | refine St.neq_pnil pg rfl rfl rfl rfl ?_ | refine St.bneq pg rfl rfl rfl rfl ?_ | fail) | (refine dk 11 ?_; refine St.len pg rfl rfl rfl ?_) | (refine dk 7 ?_; first | refine St.not_dec rfl ?_ | refine St.not rfl ?_ | fail)) | (refine OW.d ?_; refine dk 0 ?_; refine OW.step (gd_none rfl) rfl ?_) | (refine CW.d ?_; first | (refine dk 0 ?_; refine CW.seq ?_) | (refine dk 1 ?_; refine CW.region ?_) | (refine dk 3 ?_; first | refine CW.cond_true rfl (by (first | rfl | assumption | exact decide_eq_true (by first | assumption | omega) | exact decide_eq_false (by first | assumption | exact not_not_intro (by assumption) | omega) | fail)) ?_ | refine CW.cond_false rfl (by (first | rfl | assumption | exact decide_eq_true (by first | assumption | omega) | exact decide_eq_false (by first | assumption | exact not_not_intro (by assumption) | omega) | fail)) ?_ | (refine CW.cond_dnot rfl ?_ ?_ <;> intro _ <;> try (exfalso; omega)) | (refine CW.cond_dec rfl ?_ ?_ <;> intro _ <;> try (exfalso; omega)) | (refine CW.cond rfl ?_ ?_ <;> intro _) | fail) | (refine dk 4 ?_; refine CW.skip ?_) | (refine dk 5 ?_; refine CW.ret ?_)) | refine OW.nil ?_ | refine PK.code_normal ?_ | refine PK.code_ret ?_ | refine PK.nil_ret ?_ | refine RW.done ?_ | refine RW.step rfl (gd_none rfl) rfl ?_ | refine RW.step rfl (gd_yes rfl rfl rfl (by (first | rfl | assumption | exact decide_eq_true (by first | assumption | omega) | exact decide_eq_false (by first | assumption | exact not_not_intro (by assumption) | omega) | fail))) rfl ?_ | refine RW.pass rfl (gd_no rfl rfl rfl (by (first | rfl | assumption | exact decide_eq_true (by first | assumption | omega) | exact decide_eq_false (by first | assumption | exact not_not_intro (by assumption) | omega) | fail))) rfl ?_ | refine RW.pass rfl (gd_undef rfl rfl rfl) rfl ?_ | (refine RW.split_dnot rfl rfl rfl rfl ?_ ?_ <;> intro _ <;> try (exfalso; omega)) | (refine RW.split_dec rfl rfl rfl rfl ?_ ?_ <;> intro _ <;> try (exfalso; omega)) | (refine RW.split rfl rfl rfl rfl ?_ ?_ <;> intro _) | (refine CW.d ?_; refine dk 2 ?_; refine CW.region_draw [] ord32 pg.mix (by kernel_rfl) (by kernel_rfl) ?_) | fail)
  · rename_i hf
    refine ⟨_, ResOK.one rfl, ?_⟩
    rw [show hear n rows e = (rows, 1) by unfold hear; rw [if_neg (fun hh => hf hh.1)]]
    exact ⟨rfl, k2, hst02.nil⟩
  · rename_i hf hl
    refine ⟨_, ResOK.one rfl, ?_⟩
    rw [show hear n rows e = (rows, 1) by unfold hear; rw [if_neg (fun hh => by have := hh.2; omega)]]
    exact ⟨rfl, k2, hst02.nil⟩
  rename_i hf hl
  have hpl : e.past.length = n := by omega
  obtain ⟨hv, hrb, hnum, hnm, htm⟩ := hf.1
  obtain ⟨r, hrr⟩ : ∃ r : Nat, e.rep = r := ⟨e.rep.toNat, by have := hrb.1; omega⟩
  have hrl : r < e.past.length := by have := hrb.2; omega
  obtain ⟨x, hx⟩ : ∃ x, e.past[r]? = some x := ⟨_, List.getElem?_eq_getElem hrl⟩
  have hat : e.at_ = x := by simp [EvS.at_, hrr, List.getD, hx]
  have hxv := hv.1 x (List.mem_of_getElem? hx)
  rw [hrr] at hE2
  have hE2l := hE2.lt
  refine (clone_any hp2.s (by have := hv.2; omega)).mono ?_
  rintro cv h3 ⟨hcv, hst3, hcn⟩
  rcases hcv.ok with ⟨_, h0⟩ | ⟨cb, co, ccap, cl, rfl, _, _, _, _⟩
  · omega
  have hcb := hcn cb (by simp [blkOf])
  have hcx := own_cel hcv hx
  obtain ⟨L, hL, hLi, hLs⟩ := own_set hcv hrl
  have hE3 := hst3.blk0 hE2
  have k3 := k2.grow hst3
  clear hE2
  repeat' (first | (refine St.d ?_; first | (refine dk 0 ?_; refine St.move rfl ?_) | (refine dk 4 ?_; first | refine St.fieldAddr0 pg rfl rfl rfl rfl ?_ | refine St.fieldAddr pg rfl rfl rfl rfl ?_ | fail) | (refine dk 2 ?_; first | refine St.load pg rfl rfl rfl (by (first | assumption | exact Blk.cel (by (repeat (first | assumption | exact New.blk (by assumption) | exact Upd.blk (by assumption) | (apply New.old; assumption) | (apply Upd.keep; assumption; (focus (first | assumption | exact Ne.symm (by assumption) | omega | (intro hne; simp only at hne; omega)))) | (apply Stp.blk0; assumption) | (apply Stp.blk1; assumption; (focus (first | assumption | exact Ne.symm (by assumption) | omega | (intro hne; simp only at hne; omega))))))) (by rfl) | exact Cels.fld (by assumption) (by rfl) | exact Cels.fld0 (by assumption) (by rfl) | (repeat (first | assumption | (apply New.oldc; assumption) | (apply Upd.keepc; assumption; (focus (first | assumption | exact Ne.symm (by assumption) | omega | (intro hne; simp only at hne; omega)))) | (apply Stp.cel0; assumption))))) (by first | exact List.not_mem_nil | assumption) rfl ?_ | refine St.loadS pg rfl rfl rfl (by first | assumption | exact Blk.cels0 (by (repeat (first | assumption | exact New.blk (by assumption) | exact Upd.blk (by assumption) | (apply New.old; assumption) | (apply Upd.keep; assumption; (focus (first | assumption | exact Ne.symm (by assumption) | omega | (intro hne; simp only at hne; omega)))) | (apply Stp.blk0; assumption) | (apply Stp.blk1; assumption; (focus (first | assumption | exact Ne.symm (by assumption) | omega | (intro hne; simp only at hne; omega)))))))) (by first | exact List.not_mem_nil | assumption) rfl rfl ?_ | fail) | (refine dk 1 ?_; refine St.assign rfl ?_) | (refine dk 23 ?_; first | refine St.call pg rfl rfl rfl ?_ | refine St.call0 pg rfl rfl rfl ?_ | refine St.callX pg rfl rfl rfl ?_ | fail) | (refine dk 3 ?_; first | (refine St.store pg rfl rfl rfl rfl rfl (by (repeat (first | assumption | exact New.blk (by assumption) | exact Upd.blk (by assumption) | (apply New.old; assumption) | (apply Upd.keep; assumption; (focus (first | assumption | exact Ne.symm (by assumption) | omega | (intro hne; simp only at hne; omega)))) | (apply Stp.blk0; assumption) | (apply Stp.blk1; assumption; (focus (first | assumption | exact Ne.symm (by assumption) | omega | (intro hne; simp only at hne; omega))))))) (by (first | exact SetL.set (by assumption) | (repeat (first | exact SetL.z | apply SetL.s)))) rfl ?_; intro _ _ _) | (refine St.storeS pg rfl rfl rfl rfl (by simp) (by first | (simp [Value.oneCell', *]; done) | (intro u hu; simp only [List.mem_cons, List.not_mem_nil, or_false] at hu; repeat' (first | (rcases hu with rfl | hu; first | rfl | assumption) | (subst hu; first | rfl | assumption)))) (by (repeat (first | assumption | exact New.blk (by assumption) | exact Upd.blk (by assumption) | (apply New.old; assumption) | (apply Upd.keep; assumption; (focus (first | assumption | exact Ne.symm (by assumption) | omega | (intro hne; simp only at hne; omega)))) | (apply Stp.blk0; assumption) | (apply Stp.blk1; assumption; (focus (first | assumption | exact Ne.symm (by assumption) | omega | (intro hne; simp only at hne; omega))))))) (by (repeat (first | exact SetR.z | (apply SetR.c; (focus (first | exact SetL.set (by assumption) | (repeat (first | exact SetL.z | apply SetL.s)))))))) rfl ?_; intro _ _ _) | fail) | (refine dk 10 ?_; first | refine St.indexAddr1 pg rfl rfl rfl rfl rfl rfl rfl (by first | omega | decide | exact Nat.succ_pos _ | (show 0 < _; omega)) ?_ | refine St.indexAddr pg rfl rfl rfl rfl rfl rfl (by first | omega | decide | exact Nat.succ_pos _ | (show 0 < _; omega)) ?_ | refine St.indexAddrA1 pg rfl rfl rfl rfl rfl rfl rfl (by first | omega | decide) ?_ | fail) | (refine dk 27 ?_; refine St.imax rfl rfl ?_)) | (refine OW.d ?_; refine dk 0 ?_; refine OW.step (gd_none rfl) rfl ?_) | (refine CW.d ?_; first | (refine dk 0 ?_; refine CW.seq ?_) | (refine dk 1 ?_; refine CW.region ?_)) | refine OW.nil ?_ | refine PK.code_normal ?_ | refine RW.done ?_ | refine RW.step rfl (gd_none rfl) rfl ?_ | refine RW.step rfl (gd_yes rfl rfl rfl (by (first | rfl | assumption | exact decide_eq_true (by first | assumption | omega) | exact decide_eq_false (by first | assumption | exact not_not_intro (by assumption) | omega) | fail))) rfl ?_ | refine RW.pass rfl (gd_no rfl rfl rfl (by (first | rfl | assumption | exact decide_eq_true (by first | assumption | omega) | exact decide_eq_false (by first | assumption | exact not_not_intro (by assumption) | omega) | fail))) rfl ?_ | refine RW.pass rfl (gd_undef rfl rfl rfl) rfl ?_ | (refine RW.split_dnot rfl rfl rfl rfl ?_ ?_ <;> intro _ <;> try (exfalso; omega)) | (refine RW.split_dec rfl rfl rfl rfl ?_ ?_ <;> intro _ <;> try (exfalso; omega)) | (refine RW.split rfl rfl rfl rfl ?_ ?_ <;> intro _) | (refine CW.d ?_; refine dk 2 ?_; refine CW.region_draw [] ord32 pg.mix (by kernel_rfl) (by kernel_rfl) ?_) | fail)
  rename_i h4 hu z4
  have ho4 := hLs h4 _ hu
  have hst4 : Stp [] h2 h4 := Stp.upd hu hst3 (.inr (by omega))
  have k4 := k2.grow hst4
  have hst04 := hst02.trans hst4
  have hz := hst04.size
  have hcs : CkV h4 (.slice (some ⟨cb, co, none⟩) e.past.length ccap) (e.past.set r (max x e.num)) := by
    refine ⟨⟨by have := ho4.sl; simpa using this⟩, by simpa using hp.l, fun y hy => ?_⟩
    rcases List.mem_or_eq_of_mem_set hy with h5 | h5
    · have := hv.1 y h5; omega
    · omega
  refine (learn_any k4 hcs (fun b hb => by have := hS b hb; omega) r).mono ?_
  rintro _ h5 ⟨rfl, k5, hst5⟩
  repeat' (first | (refine St.d ?_; first | (refine dk 1 ?_; refine St.assign rfl ?_)) | (refine OW.d ?_; refine dk 0 ?_; refine OW.step (gd_none rfl) rfl ?_) | (refine CW.d ?_; first | (refine dk 5 ?_; refine CW.ret ?_)) | refine OW.nil ?_ | refine PK.code_normal ?_ | refine PK.nil_ret ?_ | refine RW.step rfl (gd_none rfl) rfl ?_ | refine RW.step rfl (gd_yes rfl rfl rfl (by (first | rfl | assumption | exact decide_eq_true (by first | assumption | omega) | exact decide_eq_false (by first | assumption | exact not_not_intro (by assumption) | omega) | fail))) rfl ?_ | refine RW.pass rfl (gd_no rfl rfl rfl (by (first | rfl | assumption | exact decide_eq_true (by first | assumption | omega) | exact decide_eq_false (by first | assumption | exact not_not_intro (by assumption) | omega) | fail))) rfl ?_ | refine RW.pass rfl (gd_undef rfl rfl rfl) rfl ?_ | (refine RW.split_dnot rfl rfl rfl rfl ?_ ?_ <;> intro _ <;> try (exfalso; omega)) | (refine RW.split_dec rfl rfl rfl rfl ?_ ?_ <;> intro _ <;> try (exfalso; omega)) | (refine RW.split rfl rfl rfl rfl ?_ ?_ <;> intro _) | (refine CW.d ?_; refine dk 2 ?_; refine CW.region_draw [] ord32 pg.mix (by kernel_rfl) (by kernel_rfl) ?_) | fail)
  refine ⟨_, ResOK.one rfl, ?_⟩
  rw [show hear n rows e = learn n rows r (e.past.set r (max x e.num)) by unfold hear; rw [if_pos ⟨hf, hpl⟩, hat, hrr]; simp]
  exact ⟨rfl, k5, hst04.nil.trans hst5⟩
end Go.Proofs.Ytaopehadegknoaa
