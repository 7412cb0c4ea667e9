/- Contracts of the reference of stability: Learn, Take, Behind; conditions: the lists lie in the heap. -/
import Derived.Test.YtaopehadegknoaaRh
namespace Go.Proofs.Ytaopehadegknoaa
open Go Go.CF
set_option maxRecDepth 20000

theorem own_setV {h : Heap} {b o len cap T : Nat} {c : List Value} (ho : Own h (.slice (some ⟨b, o, none⟩) len cap) T 1 len c) {i : Nat} (hi : i < len) :
    ∃ L, Blk h b T L ∧ o + i < L.length ∧ ∀ h' x, Upd h b T (L.set (o + i) x) h' → Own h' (.slice (some ⟨b, o, none⟩) len cap) T 1 len (c.set i x) := by
  have hlv := ho.len_vs
  rcases ho.ok with ⟨h1, _⟩ | ⟨b', o', cap', L, he, hb, h1, h2, h3⟩
  · cases h1
  cases he
  refine ⟨L, hb, by omega, fun h' x hu => ⟨by rw [List.length_set]; exact hlv, .inr ⟨b, o, cap, _, rfl, hu.blk, by rw [List.length_set]; exact h1, h2, ?_⟩⟩⟩
  rw [← h3]
  apply List.ext_getElem?
  intro j
  simp only [List.getElem?_take, List.getElem?_drop, List.getElem?_set, List.length_take, List.length_drop]
  by_cases hj : j < len * 1
  · rw [if_pos hj]
    by_cases hij : i = j
    · subst hij
      have e1 : o + i < L.length := by omega
      have e2 : i < min (len * 1) (L.length - o) := by omega
      rw [if_pos rfl, if_pos e1, if_pos rfl, if_pos e2]
    · rw [if_neg (by omega), if_neg hij, if_pos hj]
  · rw [if_neg hj, if_neg hj]
    by_cases hij : i = j
    · omega
    · rw [if_neg hij]
theorem clks_vs {h : Heap} {F : Nat → Prop} {v : Value} {l : List (List Int)} (hs : clks.R h F [v] l) :
    ∃ vs : List Value, vs.length = l.length ∧ Sl h v l.length vs ∧ ∀ (i : Nat) (c : List Int) (w : Value), l[i]? = some c → vs[i]? = some w → CkV h w c ∧ ∀ b ∈ rdOf w, F b := by
  obtain ⟨v', e, hb, hlm, rows, hsl, hl, hr⟩ := hs
  simp only [List.cons.injEq, and_true] at e
  subst e
  have key : ∀ (rows : List (List Value)) (l : List (List Int)), rowsR (Rp.int .i64).slice h F rows l → ∃ vs : List Value, rows.flatten = vs ∧ vs.length = l.length ∧ ∀ (i : Nat) (c : List Int) (w : Value), l[i]? = some c → vs[i]? = some w → CkV h w c ∧ ∀ b ∈ rdOf w, F b := by
    intro rows
    induction rows with
    | nil =>
      intro l hl
      have := hl.1
      simp at this
      have := List.eq_nil_of_length_eq_zero this.symm
      subst this
      exact ⟨[], rfl, rfl, fun i c w h1 => by simp at h1⟩
    | cons r rs ih =>
      intro l hl
      match l, hl with
      | [], hl => have := hl.1; simp at this
      | x :: xs, hl =>
        obtain ⟨vs, h1, h2, h3⟩ := ih xs ⟨by have := hl.1; simpa using this, fun i row a hi ha => hl.2 (i + 1) row a (by simpa using hi) (by simpa using ha)⟩
        obtain ⟨w, rfl, h4, h5⟩ := CkV.ofR (hl.2 0 r x rfl rfl)
        refine ⟨w :: vs, by simp [h1], by simp [h2], fun i c u hc hu => ?_⟩
        match i, hc, hu with
        | 0, hc, hu => simp at hc hu; subst hc; subst hu; exact ⟨h4, h5⟩
        | i + 1, hc, hu => exact h3 i c u (by simpa using hc) (by simpa using hu)
  obtain ⟨vs, h1, h2, h3⟩ := key rows l ⟨hl, hr⟩
  exact ⟨vs, h2, h1 ▸ hsl, h3⟩

set_option maxHeartbeats 2000000 in
theorem rlearn_any {h : Heap} {F : Nat → Prop} {v0 cv : Value} {rows : List (List Int)} {n : Nat} {c : List Int} (hs : clks.R h F [v0] rows) (hn5 : 1 ≤ n ∧ n ≤ 5) (hM : Mat n rows) (hc : CkV h cv c) (r : Int) :
    CallsH Try.prog 31 #[v0, .int .i64 r, cv] h fun x h' => ∃ rv, x = .tuple #[rv, .int .i64 (learn n rows r c).2] ∧ clks.R h' (fun b => F b ∨ h.size ≤ b) [rv] (learn n rows r c).1 ∧ Stp [] h h' := by
  have hlm := sliceR_len hs
  have hrl := hM.1
  have hs' := Rp.mono _ (fun b hb => .inl hb : ∀ b, F b → F b ∨ h.size ≤ b) hs
  obtain ⟨p, cap, he⟩ := sliceR_shape hs
  simp only [List.cons.injEq, and_true] at he
  subst he
  obtain ⟨pc, capc, rfl⟩ := hc.s.sl.shape
  have hcl := hc.l
  refine CallsH.of (l := [_, _, _]) Try.func31 rfl Try.ntmps31 Try.results31 rfl ?_
  by_cases hr : r < 0 ∨ (n : Int) ≤ r
  · have hl : learn n rows r c = (rows, 2) := if_pos hr
    rw [hl]
    repeat' (first | (refine St.d ?_; first | (refine dk 0 ?_; refine St.move rfl ?_) | (refine dk 1 ?_; refine St.assign rfl ?_) | (refine dk 6 ?_; first | refine St.pick_true rfl (by (first | rfl | assumption | exact decide_eq_true (by first | assumption | omega) | exact decide_eq_false (by first | assumption | exact not_not_intro (by assumption) | omega) | fail)) rfl ?_ | refine St.pick_false rfl (by (first | rfl | assumption | exact decide_eq_true (by first | assumption | omega) | exact decide_eq_false (by first | assumption | exact not_not_intro (by assumption) | omega) | fail)) rfl ?_ | fail) | (refine dk 14 ?_; refine St.lss rfl rfl ?_) | (refine dk 11 ?_; refine St.len pg rfl rfl rfl ?_) | (refine dk 17 ?_; refine St.geq rfl rfl ?_)) | (refine OW.d ?_; first | (refine dk 0 ?_; refine OW.step (gd_none rfl) rfl ?_) | (refine dk 1 ?_; first | refine OW.step (gd_yes rfl rfl rfl (by (first | rfl | assumption | exact decide_eq_true (by first | assumption | omega) | exact decide_eq_false (by first | assumption | exact not_not_intro (by assumption) | omega) | fail))) rfl ?_ | refine OW.pass (gd_no rfl rfl rfl (by (first | rfl | assumption | exact decide_eq_true (by first | assumption | omega) | exact decide_eq_false (by first | assumption | exact not_not_intro (by assumption) | omega) | fail))) rfl ?_ | refine OW.pass (gd_undef rfl rfl rfl) rfl ?_ | (refine OW.split_dnot rfl rfl rfl ?_ ?_ <;> intro _ <;> try (exfalso; omega)) | (refine OW.split_dec rfl rfl rfl ?_ ?_ <;> intro _ <;> try (exfalso; omega)) | (refine OW.split rfl rfl rfl ?_ ?_ <;> intro _) | fail)) | (refine CW.d ?_; first | (refine dk 0 ?_; refine CW.seq ?_) | (refine dk 1 ?_; refine CW.region ?_) | (refine dk 3 ?_; first | refine CW.cond_true rfl (by (first | rfl | assumption | exact decide_eq_true (by first | assumption | omega) | exact decide_eq_false (by first | assumption | exact not_not_intro (by assumption) | omega) | fail)) ?_ | refine CW.cond_false rfl (by (first | rfl | assumption | exact decide_eq_true (by first | assumption | omega) | exact decide_eq_false (by first | assumption | exact not_not_intro (by assumption) | omega) | fail)) ?_ | (refine CW.cond_dnot rfl ?_ ?_ <;> intro _ <;> try (exfalso; omega)) | (refine CW.cond_dec rfl ?_ ?_ <;> intro _ <;> try (exfalso; omega)) | (refine CW.cond rfl ?_ ?_ <;> intro _) | fail) | (refine dk 5 ?_; refine CW.ret ?_)) | refine OW.nil ?_ | refine PK.code_normal ?_ | refine PK.code_ret ?_ | refine PK.nil_ret ?_ | fail | fail)
    all_goals first
      | exact ⟨_, ResOK.two rfl rfl, _, rfl, hs', Stp.refl _⟩
      | (exfalso; omega)
  obtain ⟨j, rfl⟩ : ∃ j : Nat, r = j := ⟨r.toNat, by omega⟩
  have hjn : j < n := by omega
  repeat' (first | (refine St.d ?_; first | (refine dk 0 ?_; refine St.move rfl ?_) | (refine dk 1 ?_; refine St.assign rfl ?_) | (refine dk 23 ?_; first | refine St.call pg rfl rfl rfl ?_ | refine St.call0 pg rfl rfl rfl ?_ | refine St.callX pg rfl rfl rfl ?_ | fail) | (refine dk 6 ?_; first | refine St.pick_true rfl (by (first | rfl | assumption | exact decide_eq_true (by first | assumption | omega) | exact decide_eq_false (by first | assumption | exact not_not_intro (by assumption) | omega) | fail)) rfl ?_ | refine St.pick_false rfl (by (first | rfl | assumption | exact decide_eq_true (by first | assumption | omega) | exact decide_eq_false (by first | assumption | exact not_not_intro (by assumption) | omega) | fail)) rfl ?_ | fail) | (refine dk 14 ?_; refine St.lss rfl rfl ?_) | (refine dk 11 ?_; refine St.len pg rfl rfl rfl ?_) | (refine dk 17 ?_; refine St.geq rfl rfl ?_)) | (refine OW.d ?_; first | (refine dk 0 ?_; refine OW.step (gd_none rfl) rfl ?_) | (refine dk 1 ?_; first | refine OW.step (gd_yes rfl rfl rfl (by (first | rfl | assumption | exact decide_eq_true (by first | assumption | omega) | exact decide_eq_false (by first | assumption | exact not_not_intro (by assumption) | omega) | fail))) rfl ?_ | refine OW.pass (gd_no rfl rfl rfl (by (first | rfl | assumption | exact decide_eq_true (by first | assumption | omega) | exact decide_eq_false (by first | assumption | exact not_not_intro (by assumption) | omega) | fail))) rfl ?_ | refine OW.pass (gd_undef rfl rfl rfl) rfl ?_ | (refine OW.split_dnot rfl rfl rfl ?_ ?_ <;> intro _ <;> try (exfalso; omega)) | (refine OW.split_dec rfl rfl rfl ?_ ?_ <;> intro _ <;> try (exfalso; omega)) | (refine OW.split rfl rfl rfl ?_ ?_ <;> intro _) | fail)) | (refine CW.d ?_; first | (refine dk 0 ?_; refine CW.seq ?_) | (refine dk 1 ?_; refine CW.region ?_) | (refine dk 3 ?_; first | refine CW.cond_true rfl (by (first | rfl | assumption | exact decide_eq_true (by first | assumption | omega) | exact decide_eq_false (by first | assumption | exact not_not_intro (by assumption) | omega) | fail)) ?_ | refine CW.cond_false rfl (by (first | rfl | assumption | exact decide_eq_true (by first | assumption | omega) | exact decide_eq_false (by first | assumption | exact not_not_intro (by assumption) | omega) | fail)) ?_ | (refine CW.cond_dnot rfl ?_ ?_ <;> intro _ <;> try (exfalso; omega)) | (refine CW.cond_dec rfl ?_ ?_ <;> intro _ <;> try (exfalso; omega)) | (refine CW.cond rfl ?_ ?_ <;> intro _) | fail) | (refine dk 4 ?_; refine CW.skip ?_)) | refine OW.nil ?_ | refine PK.code_normal ?_ | fail | fail)
  refine (rvld_any hc.s hc.l).same ?_
  by_cases hf : fit c n
  · have hcn : c.length = n := by have := hf.2; omega
    rw [decide_eq_true hf.1]
    obtain ⟨d, hd, vd⟩ := mat_get hM hjn
    have hl : learn n rows j c = (rows.set j (zipC max d c), 0) := by
      unfold learn; rw [if_neg hr, if_pos hf]; simp [List.getD, hd]
    rw [hl]
    obtain ⟨vs, hvl, hvs, hve⟩ := clks_vs hs
    obtain ⟨b, o, rfl, _, _, _, _⟩ := clks_val hs (by omega)
    obtain ⟨w, hcw, hkw⟩ := clk_at2 hs hd
    obtain ⟨pw, capw, rfl⟩ := hkw.s.sl.shape
    repeat' (first | (refine St.d ?_; first | (refine dk 0 ?_; refine St.move rfl ?_) | (refine dk 6 ?_; first | refine St.pick_true rfl (by (first | rfl | assumption | exact decide_eq_true (by first | assumption | omega) | exact decide_eq_false (by first | assumption | exact not_not_intro (by assumption) | omega) | fail)) rfl ?_ | refine St.pick_false rfl (by (first | rfl | assumption | exact decide_eq_true (by first | assumption | omega) | exact decide_eq_false (by first | assumption | exact not_not_intro (by assumption) | omega) | fail)) rfl ?_ | fail) | (refine dk 13 ?_; first | refine St.neq rfl rfl ?_ | refine St.neq_pnil pg rfl rfl rfl rfl ?_ | refine St.bneq pg rfl rfl rfl rfl ?_ | fail) | (refine dk 11 ?_; refine St.len pg rfl rfl rfl ?_) | (refine dk 7 ?_; first | refine St.not_dec rfl ?_ | refine St.not rfl ?_ | fail) | (refine dk 29 ?_; refine St.buildSlice pg rfl rfl rfl rfl rfl rfl rfl (by (repeat (first | exact Fill.nil | (apply Fill.one; rfl; rfl; (focus (first | exact SetL.set (by assumption) | (repeat (first | exact SetL.z | apply SetL.s))))) | (apply Fill.agg; rfl; rfl; (focus (repeat (first | exact SetR.z | (apply SetR.c; (focus (first | exact SetL.set (by assumption) | (repeat (first | exact SetL.z | apply SetL.s)))))))))))) rfl ?_; intro _ _ _ _ _)) | (refine OW.d ?_; first | (refine dk 0 ?_; refine OW.step (gd_none rfl) rfl ?_) | (refine dk 1 ?_; first | refine OW.step (gd_yes rfl rfl rfl (by (first | rfl | assumption | exact decide_eq_true (by first | assumption | omega) | exact decide_eq_false (by first | assumption | exact not_not_intro (by assumption) | omega) | fail))) rfl ?_ | refine OW.pass (gd_no rfl rfl rfl (by (first | rfl | assumption | exact decide_eq_true (by first | assumption | omega) | exact decide_eq_false (by first | assumption | exact not_not_intro (by assumption) | omega) | fail))) rfl ?_ | refine OW.pass (gd_undef rfl rfl rfl) rfl ?_ | (refine OW.split_dnot rfl rfl rfl ?_ ?_ <;> intro _ <;> try (exfalso; omega)) | (refine OW.split_dec rfl rfl rfl ?_ ?_ <;> intro _ <;> try (exfalso; omega)) | (refine OW.split rfl rfl rfl ?_ ?_ <;> intro _) | fail)) | (refine CW.d ?_; first | (refine dk 0 ?_; refine CW.seq ?_) | (refine dk 1 ?_; refine CW.region ?_) | (refine dk 3 ?_; first | refine CW.cond_true rfl (by (first | rfl | assumption | exact decide_eq_true (by first | assumption | omega) | exact decide_eq_false (by first | assumption | exact not_not_intro (by assumption) | omega) | fail)) ?_ | refine CW.cond_false rfl (by (first | rfl | assumption | exact decide_eq_true (by first | assumption | omega) | exact decide_eq_false (by first | assumption | exact not_not_intro (by assumption) | omega) | fail)) ?_ | (refine CW.cond_dnot rfl ?_ ?_ <;> intro _ <;> try (exfalso; omega)) | (refine CW.cond_dec rfl ?_ ?_ <;> intro _ <;> try (exfalso; omega)) | (refine CW.cond rfl ?_ ?_ <;> intro _) | fail) | (refine dk 4 ?_; refine CW.skip ?_)) | refine OW.nil ?_ | refine PK.code_normal ?_ | fail | fail)
    rename_i nb h1 hn1 enb z1
    refine St.d ?_
    refine dk 25 ?_
    refine St.append pg rfl rfl rfl rfl rfl rfl (len := 0) (vs := []) ⟨(Nat.zero_mul _).symm, .inr ⟨nb, 0, 0, _, rfl, hn1.blk, by rw [Nat.zero_mul]; exact Nat.zero_le _, Nat.le_refl _, by rw [Nat.zero_mul, List.take_zero]⟩⟩ (hvs.stp (hn1.stp (fp := [])) (by simp)) (by rw [hvl]; exact (Nat.mul_one _).symm) ?_ ?_ ?_ rfl ?_
    · intro u hu
      obtain ⟨i, hi⟩ := List.getElem?_of_mem hu
      obtain ⟨e, he⟩ : ∃ e, rows[i]? = some e := ⟨_, List.getElem?_eq_getElem (by have := (List.getElem?_eq_some_iff.1 hi).1; omega)⟩
      obtain ⟨q, qc, rfl⟩ := (hve i e u he hi).1.s.sl.shape
      rfl
    · show (_ + _) * 24 ≤ _
      omega
    · omega
    intro ov h2 happ
    have hst2 : Stp [] h h2 := Stp.stp happ.stp hn1.stp (fun b hb => .inr (by simp [blkOf] at hb; omega))
    have hown := happ.own
    rw [Nat.zero_add, List.nil_append, hrl] at hown
    have hnew : ∀ b ∈ blkOf ov, h.size ≤ b := fun b hb => by
      rcases happ.blk with h8 | h8
      · rw [h8] at hb; simp [blkOf] at hb; omega
      · have := h8 b hb; omega
    clear happ
    have hown : Own h2 ov 26 1 n vs := hown
    obtain ⟨ob, oo, ocap, rfl⟩ : ∃ ob oo ocap, ov = .slice (some ⟨ob, oo, none⟩) n ocap := by
      rcases hown.ok with ⟨_, h0⟩ | ⟨ob, oo, ocap, L, rfl, _, _, _, _⟩
      · omega
      · exact ⟨ob, oo, ocap, rfl⟩
    have hob : h.size ≤ ob := hnew ob (by simp [blkOf])
    have hcw2 := hst2.cel0 hcw
    repeat' (first | (refine St.d ?_; first | (refine dk 0 ?_; refine St.move rfl ?_) | (refine dk 2 ?_; first | refine St.load pg rfl rfl rfl (by (first | assumption | exact Blk.cel (by (repeat (first | assumption | exact New.blk (by assumption) | exact Upd.blk (by assumption) | (apply New.old; assumption) | (apply Upd.keep; assumption; (focus (first | assumption | exact Ne.symm (by assumption) | omega | (intro hne; simp only at hne; omega)))) | (apply Stp.blk0; assumption) | (apply Stp.blk1; assumption; (focus (first | assumption | exact Ne.symm (by assumption) | omega | (intro hne; simp only at hne; omega))))))) (by rfl) | exact Cels.fld (by assumption) (by rfl) | exact Cels.fld0 (by assumption) (by rfl) | (repeat (first | assumption | (apply New.oldc; assumption) | (apply Upd.keepc; assumption; (focus (first | assumption | exact Ne.symm (by assumption) | omega | (intro hne; simp only at hne; omega)))) | (apply Stp.cel0; assumption))))) (by first | exact List.not_mem_nil | assumption) rfl ?_ | refine St.loadS pg rfl rfl rfl (by first | assumption | exact Blk.cels0 (by (repeat (first | assumption | exact New.blk (by assumption) | exact Upd.blk (by assumption) | (apply New.old; assumption) | (apply Upd.keep; assumption; (focus (first | assumption | exact Ne.symm (by assumption) | omega | (intro hne; simp only at hne; omega)))) | (apply Stp.blk0; assumption) | (apply Stp.blk1; assumption; (focus (first | assumption | exact Ne.symm (by assumption) | omega | (intro hne; simp only at hne; omega)))))))) (by first | exact List.not_mem_nil | assumption) rfl rfl ?_ | fail) | (refine dk 1 ?_; refine St.assign rfl ?_) | (refine dk 23 ?_; first | refine St.call pg rfl rfl rfl ?_ | refine St.call0 pg rfl rfl rfl ?_ | refine St.callX pg rfl rfl rfl ?_ | fail) | (refine dk 10 ?_; first | refine St.indexAddr1 pg rfl rfl rfl rfl rfl rfl rfl (by first | omega | decide | exact Nat.succ_pos _ | (show 0 < _; omega)) ?_ | refine St.indexAddr pg rfl rfl rfl rfl rfl rfl (by first | omega | decide | exact Nat.succ_pos _ | (show 0 < _; omega)) ?_ | refine St.indexAddrA1 pg rfl rfl rfl rfl rfl rfl rfl (by first | omega | decide) ?_ | fail) | (refine dk 29 ?_; refine St.buildSlice pg rfl rfl rfl rfl rfl rfl rfl (by (repeat (first | exact Fill.nil | (apply Fill.one; rfl; rfl; (focus (first | exact SetL.set (by assumption) | (repeat (first | exact SetL.z | apply SetL.s))))) | (apply Fill.agg; rfl; rfl; (focus (repeat (first | exact SetR.z | (apply SetR.c; (focus (first | exact SetL.set (by assumption) | (repeat (first | exact SetL.z | apply SetL.s)))))))))))) rfl ?_; intro _ _ _ _ _)) | (refine OW.d ?_; first | (refine dk 0 ?_; refine OW.step (gd_none rfl) rfl ?_) | (refine dk 1 ?_; first | refine OW.step (gd_yes rfl rfl rfl (by (first | rfl | assumption | exact decide_eq_true (by first | assumption | omega) | exact decide_eq_false (by first | assumption | exact not_not_intro (by assumption) | omega) | fail))) rfl ?_ | refine OW.pass (gd_no rfl rfl rfl (by (first | rfl | assumption | exact decide_eq_true (by first | assumption | omega) | exact decide_eq_false (by first | assumption | exact not_not_intro (by assumption) | omega) | fail))) rfl ?_ | refine OW.pass (gd_undef rfl rfl rfl) rfl ?_ | (refine OW.split_dnot rfl rfl rfl ?_ ?_ <;> intro _ <;> try (exfalso; omega)) | (refine OW.split_dec rfl rfl rfl ?_ ?_ <;> intro _ <;> try (exfalso; omega)) | (refine OW.split rfl rfl rfl ?_ ?_ <;> intro _) | fail)) | (refine CW.d ?_; first | (refine dk 0 ?_; refine CW.seq ?_) | (refine dk 1 ?_; refine CW.region ?_)) | refine OW.nil ?_ | refine PK.code_normal ?_ | fail | fail)
    rename_i nb3 h3 hn3 enb3 z3
    have s3 : Stp [] h2 h3 := hn3.stp
    have vc := fit_vln hf
    refine (rjoin_any (clks2 hn3.blk (hkw.grow (hst2.trans s3)) (hc.grow (hst2.trans s3))) (alk2 vd vc) (n := n) vd.2).mono ?_
    rintro jv h4 ⟨hjo, s4, hjnew⟩
    have hjo : Own h4 jv 3 1 n (intsV (zipC max d c)) := hjo
    obtain ⟨pj, capj, rfl⟩ := hjo.sl.shape
    have zz2 := hst2.size
    have zz3 := s3.size
    have hown4 := (hown.stp s3 (by simp)).stp s4 (by simp)
    obtain ⟨L, hL, hLi, hset⟩ := own_setV hown4 hjn
    have hvz : vln n (zipC max d c) := zip_vld vd vc
    repeat' (first | (refine St.d ?_; first | (refine dk 0 ?_; refine St.move rfl ?_) | (refine dk 1 ?_; refine St.assign rfl ?_) | (refine dk 3 ?_; first | (refine St.store pg rfl rfl rfl rfl rfl (by (repeat (first | assumption | exact New.blk (by assumption) | exact Upd.blk (by assumption) | (apply New.old; assumption) | (apply Upd.keep; assumption; (focus (first | assumption | exact Ne.symm (by assumption) | omega | (intro hne; simp only at hne; omega)))) | (apply Stp.blk0; assumption) | (apply Stp.blk1; assumption; (focus (first | assumption | exact Ne.symm (by assumption) | omega | (intro hne; simp only at hne; omega))))))) (by (first | exact SetL.set (by assumption) | (repeat (first | exact SetL.z | apply SetL.s)))) rfl ?_; intro _ _ _) | (refine St.storeS pg rfl rfl rfl rfl (by simp) (by first | (simp [Value.oneCell', *]; done) | (intro u hu; simp only [List.mem_cons, List.not_mem_nil, or_false] at hu; repeat' (first | (rcases hu with rfl | hu; first | rfl | assumption) | (subst hu; first | rfl | assumption)))) (by (repeat (first | assumption | exact New.blk (by assumption) | exact Upd.blk (by assumption) | (apply New.old; assumption) | (apply Upd.keep; assumption; (focus (first | assumption | exact Ne.symm (by assumption) | omega | (intro hne; simp only at hne; omega)))) | (apply Stp.blk0; assumption) | (apply Stp.blk1; assumption; (focus (first | assumption | exact Ne.symm (by assumption) | omega | (intro hne; simp only at hne; omega))))))) (by (repeat (first | exact SetR.z | (apply SetR.c; (focus (first | exact SetL.set (by assumption) | (repeat (first | exact SetL.z | apply SetL.s)))))))) rfl ?_; intro _ _ _) | fail) | (refine dk 10 ?_; first | refine St.indexAddr1 pg rfl rfl rfl rfl rfl rfl rfl (by first | omega | decide | exact Nat.succ_pos _ | (show 0 < _; omega)) ?_ | refine St.indexAddr pg rfl rfl rfl rfl rfl rfl (by first | omega | decide | exact Nat.succ_pos _ | (show 0 < _; omega)) ?_ | refine St.indexAddrA1 pg rfl rfl rfl rfl rfl rfl rfl (by first | omega | decide) ?_ | fail)) | (refine OW.d ?_; first | (refine dk 0 ?_; refine OW.step (gd_none rfl) rfl ?_) | (refine dk 1 ?_; first | refine OW.step (gd_yes rfl rfl rfl (by (first | rfl | assumption | exact decide_eq_true (by first | assumption | omega) | exact decide_eq_false (by first | assumption | exact not_not_intro (by assumption) | omega) | fail))) rfl ?_ | refine OW.pass (gd_no rfl rfl rfl (by (first | rfl | assumption | exact decide_eq_true (by first | assumption | omega) | exact decide_eq_false (by first | assumption | exact not_not_intro (by assumption) | omega) | fail))) rfl ?_ | refine OW.pass (gd_undef rfl rfl rfl) rfl ?_ | (refine OW.split_dnot rfl rfl rfl ?_ ?_ <;> intro _ <;> try (exfalso; omega)) | (refine OW.split_dec rfl rfl rfl ?_ ?_ <;> intro _ <;> try (exfalso; omega)) | (refine OW.split rfl rfl rfl ?_ ?_ <;> intro _) | fail)) | (refine CW.d ?_; first | (refine dk 0 ?_; refine CW.seq ?_) | (refine dk 1 ?_; refine CW.region ?_) | (refine dk 5 ?_; refine CW.ret ?_)) | refine OW.nil ?_ | refine PK.code_normal ?_ | refine PK.nil_ret ?_ | fail | fail)
    rename_i h5 hu5 z5
    have ho5 := hset h5 _ hu5
    have s24 : Stp [] h h4 := hst2.trans (s3.trans s4)
    have s5 : Stp [] h h5 := Stp.upd hu5 s24 (.inr hob)
    have kj : CkV h4 (.slice pj n capj) (zipC max d c) := .ofVld ⟨by rw [hvz.2]; exact hjo.sl⟩ hvz.1
    have hjne : ∀ b ∈ rdOf (.slice pj n capj), b ≠ ob := fun b hb e => by
      have h9 := hjnew b (rdOf_blk hb)
      have h10 := hown.lt ob (by simp [blkOf])
      omega
    refine ⟨_, ResOK.two rfl rfl, _, rfl, clks_ofF (by rw [List.length_set, hrl]; exact ho5.sl) (fun b hb => .inr (hnew b (rdOf_blk hb))) (by simp [hvl]) (by simp; omega) (fun i e w he hw => ?_), s5⟩
    rw [List.getElem?_set] at he hw
    by_cases hij : j = i
    · subst hij
      rw [if_pos rfl, if_pos (by omega)] at he
      rw [if_pos rfl, if_pos (by omega)] at hw
      cases he
      cases hw
      exact ⟨kj.stp hu5.stp (fun b hb hm => by simp at hm; exact hjne b hb hm), fun b hb => .inr (by have := hjnew b (rdOf_blk hb); omega)⟩
    · rw [if_neg hij] at he hw
      obtain ⟨h9, h10⟩ := hve i e w he hw
      exact ⟨h9.grow s5, fun b hb => .inl (h10 b hb)⟩
  · have hl : learn n rows j c = (rows, 1) := by unfold learn; rw [if_neg hr, if_neg hf]
    rw [hl]
    by_cases hv : vld c
    · rw [decide_eq_true hv]
      have : c.length ≠ n := fun e => hf ⟨hv, by omega⟩
      repeat' (first | (refine St.d ?_; first | (refine dk 0 ?_; refine St.move rfl ?_) | (refine dk 1 ?_; refine St.assign rfl ?_) | (refine dk 6 ?_; first | refine St.pick_true rfl (by (first | rfl | assumption | exact decide_eq_true (by first | assumption | omega) | exact decide_eq_false (by first | assumption | exact not_not_intro (by assumption) | omega) | fail)) rfl ?_ | refine St.pick_false rfl (by (first | rfl | assumption | exact decide_eq_true (by first | assumption | omega) | exact decide_eq_false (by first | assumption | exact not_not_intro (by assumption) | omega) | fail)) rfl ?_ | fail) | (refine dk 13 ?_; first | refine St.neq rfl rfl ?_ | refine St.neq_pnil pg rfl rfl rfl rfl ?_ | refine St.bneq pg rfl rfl rfl rfl ?_ | fail) | (refine dk 11 ?_; refine St.len pg rfl rfl rfl ?_) | (refine dk 7 ?_; first | refine St.not_dec rfl ?_ | refine St.not rfl ?_ | fail)) | (refine OW.d ?_; first | (refine dk 0 ?_; refine OW.step (gd_none rfl) rfl ?_) | (refine dk 1 ?_; first | refine OW.step (gd_yes rfl rfl rfl (by (first | rfl | assumption | exact decide_eq_true (by first | assumption | omega) | exact decide_eq_false (by first | assumption | exact not_not_intro (by assumption) | omega) | fail))) rfl ?_ | refine OW.pass (gd_no rfl rfl rfl (by (first | rfl | assumption | exact decide_eq_true (by first | assumption | omega) | exact decide_eq_false (by first | assumption | exact not_not_intro (by assumption) | omega) | fail))) rfl ?_ | refine OW.pass (gd_undef rfl rfl rfl) rfl ?_ | (refine OW.split_dnot rfl rfl rfl ?_ ?_ <;> intro _ <;> try (exfalso; omega)) | (refine OW.split_dec rfl rfl rfl ?_ ?_ <;> intro _ <;> try (exfalso; omega)) | (refine OW.split rfl rfl rfl ?_ ?_ <;> intro _) | fail)) | (refine CW.d ?_; first | (refine dk 0 ?_; refine CW.seq ?_) | (refine dk 1 ?_; refine CW.region ?_) | (refine dk 3 ?_; first | refine CW.cond_true rfl (by (first | rfl | assumption | exact decide_eq_true (by first | assumption | omega) | exact decide_eq_false (by first | assumption | exact not_not_intro (by assumption) | omega) | fail)) ?_ | refine CW.cond_false rfl (by (first | rfl | assumption | exact decide_eq_true (by first | assumption | omega) | exact decide_eq_false (by first | assumption | exact not_not_intro (by assumption) | omega) | fail)) ?_ | (refine CW.cond_dnot rfl ?_ ?_ <;> intro _ <;> try (exfalso; omega)) | (refine CW.cond_dec rfl ?_ ?_ <;> intro _ <;> try (exfalso; omega)) | (refine CW.cond rfl ?_ ?_ <;> intro _) | fail) | (refine dk 5 ?_; refine CW.ret ?_)) | refine OW.nil ?_ | refine PK.code_normal ?_ | refine PK.code_ret ?_ | refine PK.nil_ret ?_ | fail | fail)
      all_goals first
        | exact ⟨_, ResOK.two rfl rfl, _, rfl, hs', Stp.refl _⟩
        | (exfalso; omega)
    · rw [decide_eq_false hv]
      repeat' (first | (refine St.d ?_; first | (refine dk 0 ?_; refine St.move rfl ?_) | (refine dk 1 ?_; refine St.assign rfl ?_) | (refine dk 6 ?_; first | refine St.pick_true rfl (by (first | rfl | assumption | exact decide_eq_true (by first | assumption | omega) | exact decide_eq_false (by first | assumption | exact not_not_intro (by assumption) | omega) | fail)) rfl ?_ | refine St.pick_false rfl (by (first | rfl | assumption | exact decide_eq_true (by first | assumption | omega) | exact decide_eq_false (by first | assumption | exact not_not_intro (by assumption) | omega) | fail)) rfl ?_ | fail) | (refine dk 7 ?_; first | refine St.not_dec rfl ?_ | refine St.not rfl ?_ | fail)) | (refine OW.d ?_; first | (refine dk 0 ?_; refine OW.step (gd_none rfl) rfl ?_) | (refine dk 1 ?_; first | refine OW.step (gd_yes rfl rfl rfl (by (first | rfl | assumption | exact decide_eq_true (by first | assumption | omega) | exact decide_eq_false (by first | assumption | exact not_not_intro (by assumption) | omega) | fail))) rfl ?_ | refine OW.pass (gd_no rfl rfl rfl (by (first | rfl | assumption | exact decide_eq_true (by first | assumption | omega) | exact decide_eq_false (by first | assumption | exact not_not_intro (by assumption) | omega) | fail))) rfl ?_ | refine OW.pass (gd_undef rfl rfl rfl) rfl ?_ | (refine OW.split_dnot rfl rfl rfl ?_ ?_ <;> intro _ <;> try (exfalso; omega)) | (refine OW.split_dec rfl rfl rfl ?_ ?_ <;> intro _ <;> try (exfalso; omega)) | (refine OW.split rfl rfl rfl ?_ ?_ <;> intro _) | fail)) | (refine CW.d ?_; first | (refine dk 0 ?_; refine CW.seq ?_) | (refine dk 1 ?_; refine CW.region ?_) | (refine dk 3 ?_; first | refine CW.cond_true rfl (by (first | rfl | assumption | exact decide_eq_true (by first | assumption | omega) | exact decide_eq_false (by first | assumption | exact not_not_intro (by assumption) | omega) | fail)) ?_ | refine CW.cond_false rfl (by (first | rfl | assumption | exact decide_eq_true (by first | assumption | omega) | exact decide_eq_false (by first | assumption | exact not_not_intro (by assumption) | omega) | fail)) ?_ | (refine CW.cond_dnot rfl ?_ ?_ <;> intro _ <;> try (exfalso; omega)) | (refine CW.cond_dec rfl ?_ ?_ <;> intro _ <;> try (exfalso; omega)) | (refine CW.cond rfl ?_ ?_ <;> intro _) | fail) | (refine dk 5 ?_; refine CW.ret ?_)) | refine OW.nil ?_ | refine PK.code_normal ?_ | refine PK.code_ret ?_ | refine PK.nil_ret ?_ | fail | fail)
      exact ⟨_, ResOK.two rfl rfl, _, rfl, hs', Stp.refl _⟩
end Go.Proofs.Ytaopehadegknoaa
