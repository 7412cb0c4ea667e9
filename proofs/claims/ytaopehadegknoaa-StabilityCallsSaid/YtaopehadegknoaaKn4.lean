/- Contracts of package stability: Rows, Stable, Behind; and Missing of package clock; conditions: what is known lies in the heap. -/
import Derived.Test.YtaopehadegknoaaKn3
namespace Go.Proofs.Ytaopehadegknoaa
open Go Go.CF
set_option maxRecDepth 20000

theorem CkV.toRF {h : Heap} {F : Nat → Prop} {v : Value} {c : List Int} (k : CkV h v c) (hF : ∀ b ∈ rdOf v, F b) : (Rp.int .i64).slice.R h F [v] c := by
  obtain ⟨w, e, _, h1, rows, h2, h3, h4⟩ := k.toR
  simp only [List.cons.injEq, and_true] at e
  subst e
  exact ⟨v, rfl, hF, h1, rows, h2, h3, fun i row a hi ha => h4 i row a hi ha⟩
theorem clks_ofF {h : Heap} {F : Nat → Prop} {v : Value} {vs : List Value} {l : List (List Int)} (hs : Sl h v l.length vs) (hF : ∀ b ∈ rdOf v, F b) (hvl : vs.length = l.length) (hl : l.length ≤ 9223372036854775807) (hk : ∀ (i : Nat) (c : List Int) (w : Value), l[i]? = some c → vs[i]? = some w → CkV h w c ∧ ∀ b ∈ rdOf w, F b) :
    clks.R h F [v] l := by
  refine ⟨v, rfl, hF, hl, vs.map (fun w => [w]), ?_, ⟨by simp [hvl], fun i row a hi ha => ?_⟩⟩
  · have : ∀ vs : List Value, (vs.map (fun w => [w])).flatten = vs := by
      intro vs
      induction vs with
      | nil => rfl
      | cons x c ih => simp only [List.map_cons, List.flatten_cons, ih]; rfl
    rw [this]; exact hs
  · rw [List.getElem?_map] at hi
    obtain ⟨w, hw, rfl⟩ := Option.map_eq_some_iff.1 hi
    obtain ⟨h1, h2⟩ := hk i a w ha hw
    exact h1.toRF h2

/-! ### Rows -/
set_option maxHeartbeats 1000000 in
theorem rows_any {h : Heap} {K n : Nat} {rows : List (List Int)} {S : List Nat} (k : KnAt h K n rows S) :
    CallsH Try.prog 37 #[.pointer (some ⟨K, 0, none⟩)] h fun r h' => clks.R h' (fun b => h.size ≤ b) [r] rows ∧ Stp [] h h' := by
  have hnum := k.num
  have hn5 := k.n5
  have hrl := k.len
  refine CallsH.of (l := [_]) Try.func37 rfl Try.ntmps37 Try.results37 rfl ?_
  repeat' (first | (refine St.d ?_; first | (refine dk 0 ?_; refine St.move rfl ?_) | (refine dk 4 ?_; first | refine St.fieldAddr0 pg rfl rfl rfl rfl ?_ | refine St.fieldAddr pg rfl rfl rfl rfl ?_ | fail) | (refine dk 2 ?_; first | refine St.load pg rfl rfl rfl (by (first | assumption | exact Blk.cel (by (repeat (first | assumption | exact New.blk (by assumption) | exact Upd.blk (by assumption) | (apply New.old; assumption) | (apply Upd.keep; assumption; (focus (first | assumption | exact Ne.symm (by assumption) | omega | (intro hne; simp only at hne; omega)))) | (apply Stp.blk0; assumption) | (apply Stp.blk1; assumption; (focus (first | assumption | exact Ne.symm (by assumption) | omega | (intro hne; simp only at hne; omega))))))) (by rfl) | exact Cels.fld (by assumption) (by rfl) | exact Cels.fld0 (by assumption) (by rfl) | (repeat (first | assumption | (apply New.oldc; assumption) | (apply Upd.keepc; assumption; (focus (first | assumption | exact Ne.symm (by assumption) | omega | (intro hne; simp only at hne; omega)))) | (apply Stp.cel0; assumption))))) (by first | exact List.not_mem_nil | assumption) rfl ?_ | refine St.loadS pg rfl rfl rfl (by first | assumption | exact Blk.cels0 (by (repeat (first | assumption | exact New.blk (by assumption) | exact Upd.blk (by assumption) | (apply New.old; assumption) | (apply Upd.keep; assumption; (focus (first | assumption | exact Ne.symm (by assumption) | omega | (intro hne; simp only at hne; omega)))) | (apply Stp.blk0; assumption) | (apply Stp.blk1; assumption; (focus (first | assumption | exact Ne.symm (by assumption) | omega | (intro hne; simp only at hne; omega)))))))) (by first | exact List.not_mem_nil | assumption) rfl rfl ?_ | fail) | (refine dk 1 ?_; refine St.assign rfl ?_) | (refine dk 5 ?_; refine St.nilCheck rfl ?_)) | (refine OW.d ?_; refine dk 0 ?_; refine OW.step (gd_none rfl) rfl ?_) | (refine CW.d ?_; first | (refine dk 0 ?_; refine CW.seq ?_) | (refine dk 1 ?_; refine CW.region ?_) | (refine dk 7 ?_; refine CW.block ?_)) | refine OW.nil ?_ | refine PK.code_normal ?_ | fail | fail)
  refine CW.loop (fun x : Nat × Value => [(0, .pointer (some ⟨K, 0, none⟩)), (3, x.2), (8, .int .i64 n), (9, .int .i64 x.1)])
    (fun x h1 => x.1 ≤ n ∧ Stp [] h h1 ∧ (∀ b ∈ blkOf x.2, h.size ≤ b) ∧ ∃ vs : List Value, vs.length = x.1 ∧ Own h1 x.2 26 1 x.1 vs ∧ ∀ (i : Nat) (c : List Int) (w : Value), rows[i]? = some c → vs[i]? = some w → CkV h1 w c ∧ ∀ b ∈ rdOf w, h.size ≤ b ∧ b ∉ blkOf x.2)
    (fun x => n - x.1) (0, .slice none 0 0) (by (repeat (first | exact trivial | refine ⟨rfl, ?_⟩))) ⟨Nat.zero_le _, Stp.refl _, by simp [blkOf], [], rfl, Own.nil, fun i c w _ hw => by simp at hw⟩ ?_
  rintro ⟨j, ov⟩ h1 ⟨hj, hst1, hnew, vs, hvl, ho, hall⟩
  simp only at hj hnew hvl ho hall
  by_cases hjn : j < n
  · obtain ⟨c, hc⟩ : ∃ c, rows[j]? = some c := ⟨_, List.getElem?_eq_getElem (by omega)⟩
    obtain ⟨w, hcw, hw, hv, hcl, _⟩ := (k.grow hst1).row hc
    obtain ⟨p1, cap1, rfl⟩ := hw.s.sl.shape
    repeat' (first | (refine St.d ?_; first | (refine dk 0 ?_; refine St.move rfl ?_) | (refine dk 4 ?_; first | refine St.fieldAddr0 pg rfl rfl rfl rfl ?_ | refine St.fieldAddr pg rfl rfl rfl rfl ?_ | fail) | (refine dk 2 ?_; first | refine St.load pg rfl rfl rfl (by (first | assumption | exact Blk.cel (by (repeat (first | assumption | exact New.blk (by assumption) | exact Upd.blk (by assumption) | (apply New.old; assumption) | (apply Upd.keep; assumption; (focus (first | assumption | exact Ne.symm (by assumption) | omega | (intro hne; simp only at hne; omega)))) | (apply Stp.blk0; assumption) | (apply Stp.blk1; assumption; (focus (first | assumption | exact Ne.symm (by assumption) | omega | (intro hne; simp only at hne; omega))))))) (by rfl) | exact Cels.fld (by assumption) (by rfl) | exact Cels.fld0 (by assumption) (by rfl) | (repeat (first | assumption | (apply New.oldc; assumption) | (apply Upd.keepc; assumption; (focus (first | assumption | exact Ne.symm (by assumption) | omega | (intro hne; simp only at hne; omega)))) | (apply Stp.cel0; assumption))))) (by first | exact List.not_mem_nil | assumption) rfl ?_ | refine St.loadS pg rfl rfl rfl (by first | assumption | exact Blk.cels0 (by (repeat (first | assumption | exact New.blk (by assumption) | exact Upd.blk (by assumption) | (apply New.old; assumption) | (apply Upd.keep; assumption; (focus (first | assumption | exact Ne.symm (by assumption) | omega | (intro hne; simp only at hne; omega)))) | (apply Stp.blk0; assumption) | (apply Stp.blk1; assumption; (focus (first | assumption | exact Ne.symm (by assumption) | omega | (intro hne; simp only at hne; omega)))))))) (by first | exact List.not_mem_nil | assumption) rfl rfl ?_ | fail) | (refine dk 1 ?_; refine St.assign rfl ?_) | (refine dk 5 ?_; refine St.nilCheck rfl ?_) | (refine dk 23 ?_; first | refine St.call pg rfl rfl rfl ?_ | refine St.call0 pg rfl rfl rfl ?_ | refine St.callX pg rfl rfl rfl ?_ | fail) | (refine dk 14 ?_; refine St.lss rfl rfl ?_) | (refine dk 10 ?_; first | refine St.indexAddr1 pg rfl rfl rfl rfl rfl rfl rfl (by first | omega | decide | exact Nat.succ_pos _ | (show 0 < _; omega)) ?_ | refine St.indexAddr pg rfl rfl rfl rfl rfl rfl (by first | omega | decide | exact Nat.succ_pos _ | (show 0 < _; omega)) ?_ | refine St.indexAddrA1 pg rfl rfl rfl rfl rfl rfl rfl (by first | omega | decide) ?_ | fail)) | (refine OW.d ?_; refine dk 0 ?_; refine OW.step (gd_none rfl) rfl ?_) | (refine CW.d ?_; first | (refine dk 0 ?_; refine CW.seq ?_) | (refine dk 1 ?_; refine CW.region ?_) | (refine dk 3 ?_; first | refine CW.cond_true rfl (by (first | rfl | assumption | exact decide_eq_true (by first | assumption | omega) | exact decide_eq_false (by first | assumption | exact not_not_intro (by assumption) | omega) | fail)) ?_ | refine CW.cond_false rfl (by (first | rfl | assumption | exact decide_eq_true (by first | assumption | omega) | exact decide_eq_false (by first | assumption | exact not_not_intro (by assumption) | omega) | fail)) ?_ | (refine CW.cond_dnot rfl ?_ ?_ <;> intro _ <;> try (exfalso; omega)) | (refine CW.cond_dec rfl ?_ ?_ <;> intro _ <;> try (exfalso; omega)) | (refine CW.cond rfl ?_ ?_ <;> intro _) | fail) | (refine dk 4 ?_; refine CW.skip ?_) | (refine dk 7 ?_; refine CW.block ?_)) | refine OW.nil ?_ | refine PK.code_normal ?_ | fail | fail)
    refine (clone_any hw.s (by omega)).mono ?_
    rintro cv h2 ⟨hcv, hst2, hcn⟩
    obtain ⟨p2, cap2, rfl⟩ := hcv.sl.shape
    repeat' (first | (refine St.d ?_; first | (refine dk 29 ?_; refine St.buildSlice pg rfl rfl rfl rfl rfl rfl rfl (by (repeat (first | exact Fill.nil | (apply Fill.one; rfl; rfl; (focus (first | exact SetL.set (by assumption) | (repeat (first | exact SetL.z | apply SetL.s))))) | (apply Fill.agg; rfl; rfl; (focus (repeat (first | exact SetR.z | (apply SetR.c; (focus (first | exact SetL.set (by assumption) | (repeat (first | exact SetL.z | apply SetL.s)))))))))))) rfl ?_; intro _ _ _ _ _)) | (refine OW.d ?_; refine dk 0 ?_; refine OW.step (gd_none rfl) rfl ?_) | fail | fail | fail)
    rename_i nb h3 hn3 enb z3
    have hst3 : Stp [] h1 h3 := hst2.trans hn3.stp
    have hz1 := hst1.size
    have hz2 := hst2.size
    have hcv2 : CkV h2 (.slice p2 c.length cap2) c := .ofVld ⟨hcv.sl⟩ hv
    refine St.d ?_
    refine dk 25 ?_
    refine St.append pg rfl rfl rfl rfl rfl rfl (ho.stp hst3 (by simp)) (Sl.ofBlk (l := [.slice p2 c.length cap2]) hn3.blk) (m := 1) rfl (by simp [Value.oneCell']) ?_ ?_ rfl ?_
    · show (_ + 1) * 24 ≤ _
      omega
    · omega
    intro ov2 h4 happ
    have hovl := ho.lt
    have hst4 : Stp [] h h4 := Stp.stp happ.stp (hst1.trans hst3) (fun b hb => .inr (hnew b hb))
    have hcb : ∀ b ∈ rdOf (.slice p2 c.length cap2), h1.size ≤ b ∧ b < h2.size := fun b hb => ⟨hcn b (rdOf_blk hb), hcv2.s.sl.lt b hb⟩
    have hb2 : ∀ b, b ∈ blkOf ov2 → b ∈ blkOf ov ∨ h3.size ≤ b := fun b hb => by
      rcases happ.blk with h8 | h8
      · exact .inl (h8 ▸ hb)
      · exact .inr (h8 b hb)
    repeat' (first | (refine St.d ?_; first | (refine dk 0 ?_; refine St.move rfl ?_) | (refine dk 1 ?_; refine St.assign rfl ?_) | (refine dk 18 ?_; refine St.add rfl rfl (by omega) ?_)) | (refine OW.d ?_; refine dk 0 ?_; refine OW.step (gd_none rfl) rfl ?_) | (refine CW.d ?_; first | (refine dk 1 ?_; refine CW.region ?_)) | refine OW.nil ?_ | refine PK.code_normal ?_ | refine PK.blk_normal ?_ | refine PK.lp_normal ?_ | fail | fail)
    refine ⟨(j + 1, ov2), by (repeat (first | exact trivial | refine ⟨rfl, ?_⟩)), ⟨hjn, hst4, fun b hb => ?_, vs ++ [Value.slice p2 c.length cap2], by simp [hvl], happ.own, fun i d x hd hx => ?_⟩, by simp only; omega⟩
    · rcases hb2 b hb with h9 | h9
      · exact hnew b h9
      · omega
    · rw [List.getElem?_append] at hx
      split at hx
      · rename_i hil
        obtain ⟨h5, h6⟩ := hall i d x hd hx
        have h7 := h5.s.sl.lt
        refine ⟨(h5.grow hst3).stp happ.stp (fun b hb => (h6 b hb).2), fun b hb => ⟨(h6 b hb).1, fun hm => ?_⟩⟩
        rcases hb2 b hm with h9 | h9
        · exact (h6 b hb).2 h9
        · have := h7 b hb
          have := hst3.size
          omega
      · have hie : i - vs.length = 0 := by
          cases hk : i - vs.length with
          | zero => rfl
          | succ q => rw [hk] at hx; simp at hx
        rw [hie] at hx
        simp at hx
        subst hx
        have : i = j := by omega
        subst this
        rw [hc] at hd; cases hd
        have hcv3 := hcv2.grow (hn3.stp (fp := []))
        refine ⟨hcv3.stp happ.stp (fun b hb hm => ?_), fun b hb => ⟨by have := (hcb b hb).1; omega, fun hm => ?_⟩⟩
        · have h8 := (hcb b hb).1
          have h9 := hovl b hm
          omega
        · rcases hb2 b hm with h9 | h9
          · have h8 := (hcb b hb).1
            have h10 := hovl b h9
            omega
          · have := (hcb b hb).2
            omega
  · have : j = n := by omega
    subst this
    repeat' (first | (refine St.d ?_; first | (refine dk 0 ?_; refine St.move rfl ?_) | (refine dk 1 ?_; refine St.assign rfl ?_) | (refine dk 14 ?_; refine St.lss rfl rfl ?_)) | (refine OW.d ?_; refine dk 0 ?_; refine OW.step (gd_none rfl) rfl ?_) | (refine CW.d ?_; first | (refine dk 0 ?_; refine CW.seq ?_) | (refine dk 1 ?_; refine CW.region ?_) | (refine dk 3 ?_; first | refine CW.cond_true rfl (by (first | rfl | assumption | exact decide_eq_true (by first | assumption | omega) | exact decide_eq_false (by first | assumption | exact not_not_intro (by assumption) | omega) | fail)) ?_ | refine CW.cond_false rfl (by (first | rfl | assumption | exact decide_eq_true (by first | assumption | omega) | exact decide_eq_false (by first | assumption | exact not_not_intro (by assumption) | omega) | fail)) ?_ | (refine CW.cond_dnot rfl ?_ ?_ <;> intro _ <;> try (exfalso; omega)) | (refine CW.cond_dec rfl ?_ ?_ <;> intro _ <;> try (exfalso; omega)) | (refine CW.cond rfl ?_ ?_ <;> intro _) | fail) | (refine dk 5 ?_; refine CW.ret ?_) | (refine dk 6 ?_; refine CW.exit ?_)) | refine OW.nil ?_ | refine PK.code_normal ?_ | refine PK.code_exit ?_ | refine PK.lp_exit ?_ | refine PK.blk_exit ?_ | refine PK.nil_ret ?_ | fail | fail)
    refine ⟨_, ResOK.one rfl, clks_ofF (by rw [hrl]; exact ho.sl) (fun b hb => hnew b (rdOf_blk hb)) (by omega) (by omega) (fun i c w hc hw => ⟨(hall i c w hc hw).1, fun b hb => ((hall i c w hc hw).2 b hb).1⟩), hst1⟩

/-! ### Stable -/
theorem stable_any {h : Heap} {K n : Nat} {rows : List (List Int)} {S : List Nat} (k : KnAt h K n rows S) :
    CallsH Try.prog 39 #[.pointer (some ⟨K, 0, none⟩)] h fun r h' => Own h' r 3 1 n (intsV (foldC min rows)) ∧ Stp [] h h' ∧ ∀ b ∈ blkOf r, h.size ≤ b := by
  have hnum := k.num
  have hn5 := k.n5
  have hrl := k.len
  obtain ⟨vs, h1, h2, h3⟩ := k.ok
  refine CallsH.of (l := [_]) Try.func39 rfl Try.ntmps39 Try.results39 rfl ?_
  repeat' (first | (refine St.d ?_; first | (refine dk 0 ?_; refine St.move rfl ?_) | (refine dk 4 ?_; first | refine St.fieldAddr0 pg rfl rfl rfl rfl ?_ | refine St.fieldAddr pg rfl rfl rfl rfl ?_ | fail) | (refine dk 2 ?_; first | refine St.load pg rfl rfl rfl (by (first | assumption | exact Blk.cel (by (repeat (first | assumption | exact New.blk (by assumption) | exact Upd.blk (by assumption) | (apply New.old; assumption) | (apply Upd.keep; assumption; (focus (first | assumption | exact Ne.symm (by assumption) | omega | (intro hne; simp only at hne; omega)))) | (apply Stp.blk0; assumption) | (apply Stp.blk1; assumption; (focus (first | assumption | exact Ne.symm (by assumption) | omega | (intro hne; simp only at hne; omega))))))) (by rfl) | exact Cels.fld (by assumption) (by rfl) | exact Cels.fld0 (by assumption) (by rfl) | (repeat (first | assumption | (apply New.oldc; assumption) | (apply Upd.keepc; assumption; (focus (first | assumption | exact Ne.symm (by assumption) | omega | (intro hne; simp only at hne; omega)))) | (apply Stp.cel0; assumption))))) (by first | exact List.not_mem_nil | assumption) rfl ?_ | refine St.loadS pg rfl rfl rfl (by first | assumption | exact Blk.cels0 (by (repeat (first | assumption | exact New.blk (by assumption) | exact Upd.blk (by assumption) | (apply New.old; assumption) | (apply Upd.keep; assumption; (focus (first | assumption | exact Ne.symm (by assumption) | omega | (intro hne; simp only at hne; omega)))) | (apply Stp.blk0; assumption) | (apply Stp.blk1; assumption; (focus (first | assumption | exact Ne.symm (by assumption) | omega | (intro hne; simp only at hne; omega)))))))) (by first | exact List.not_mem_nil | assumption) rfl rfl ?_ | fail) | (refine dk 1 ?_; refine St.assign rfl ?_) | (refine dk 5 ?_; refine St.nilCheck rfl ?_)) | (refine OW.d ?_; refine dk 0 ?_; refine OW.step (gd_none rfl) rfl ?_) | (refine CW.d ?_; first | (refine dk 0 ?_; refine CW.seq ?_) | (refine dk 1 ?_; refine CW.region ?_)) | refine OW.nil ?_ | refine PK.code_normal ?_ | refine RW.step rfl (gd_none rfl) rfl ?_ | (refine CW.d ?_; refine dk 2 ?_; refine CW.region_draw [] ord39 pg.mix (by kernel_rfl) (by kernel_rfl) ?_) | fail)
  refine St.d ?_
  refine dk 38 ?_
  refine St.sliceAH pg rfl rfl rfl rfl rfl (m := n) rfl (by omega) ?_
  repeat' (first | (refine St.d ?_; first | (refine dk 23 ?_; first | refine St.call pg rfl rfl rfl ?_ | refine St.call0 pg rfl rfl rfl ?_ | refine St.callX pg rfl rfl rfl ?_ | fail)) | (refine OW.d ?_; refine dk 0 ?_; refine OW.step (gd_none rfl) rfl ?_) | fail | refine RW.step rfl (gd_none rfl) rfl ?_ | (refine CW.d ?_; refine dk 2 ?_; refine CW.region_draw [] ord39 pg.mix (by kernel_rfl) (by kernel_rfl) ?_) | fail)
  have hcl : clks.R h (fun _ => True) [.slice (some ⟨K, 1, none⟩) n 5] rows := by
    refine clks_of (vs := vs) ?_ (by omega) (by omega) (fun i c w hc hw => .ofVld (h3 i c w hc hw).1 (k.fit c (List.mem_of_getElem? hc)).1)
    rw [hrl]
    refine ⟨.inr ⟨K, 1, 5, rfl, by omega, by omega, h2.lt, ?_⟩⟩
    have := h2.cels 1 n
    simpa [kV, h1] using this
  have halk : alk rows := ⟨by omega, fun c hc => by
    obtain ⟨h4, h5⟩ := k.fit c hc
    obtain ⟨c0, hc0⟩ : ∃ c0, rows[0]? = some c0 := ⟨_, List.getElem?_eq_getElem (by omega)⟩
    have h6 := k.fit c0 (List.mem_of_getElem? hc0)
    have h7 : rows.headD [] = c0 := by
      cases rows with
      | nil => simp at hc0
      | cons a l => simp at hc0; simp [hc0]
    rw [h7, h6.2]
    exact ⟨h4, h5⟩⟩
  have hhd : (rows.headD []).length = n := by
    have h8 : rows.headD [] ∈ rows := by
      cases rows with
      | nil => simp at hrl; omega
      | cons a l => simp
    exact (k.fit _ h8).2
  refine (meet_any hcl).mono ?_
  rintro r h' hr
  rw [if_pos halk, hhd] at hr
  repeat' (first | (refine St.d ?_; first | (refine dk 1 ?_; refine St.assign rfl ?_)) | (refine OW.d ?_; refine dk 0 ?_; refine OW.step (gd_none rfl) rfl ?_) | (refine CW.d ?_; first | (refine dk 5 ?_; refine CW.ret ?_)) | refine PK.code_normal ?_ | refine PK.nil_ret ?_ | refine RW.done ?_ | refine RW.step rfl (gd_none rfl) rfl ?_ | (refine CW.d ?_; refine dk 2 ?_; refine CW.region_draw [] ord39 pg.mix (by kernel_rfl) (by kernel_rfl) ?_) | fail)
  exact ⟨_, ResOK.one rfl, hr⟩
end Go.Proofs.Ytaopehadegknoaa
