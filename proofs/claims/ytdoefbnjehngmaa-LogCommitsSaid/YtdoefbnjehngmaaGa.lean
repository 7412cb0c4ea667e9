/- Lists of integers: how they lie, Clone, Equal; conditions: the lists lie in the heap. -/
import Derived.Test.YtdoefbnjehngmaaEngL
import Derived.Test.YtdoefbnjehngmaaArr
import Derived.Test.YtdoefbnjehngmaaPg
namespace Go.Proofs.Ytdoefbnjehngmaa
open Go Go.CF
set_option maxRecDepth 20000

theorem clone_any {h : Heap} {v : Value} {c : List Int} (hs : IntS h v c) (hl : c.length ≤ 1000000) :
    CallsH Try.prog 25 #[v] h fun r h' => Own h' r 3 1 c.length (intsV c) ∧ Stp [] h h' ∧ ∀ b ∈ blkOf r, h.size ≤ b := by
  obtain ⟨p, cap, rfl⟩ := hs.sl.shape
  refine CallsH.of (l := [_]) Try.func25 rfl Try.ntmps25 Try.results25 rfl ?_
  cases p with
  | none =>
    have h0 : c = [] := by
      rcases hs.cases with h2 | ⟨b, o, cap', h1, _, _⟩
      · exact h2
      · cases h1
    subst h0
    repeat' (first | (refine St.d ?_; first | (refine dk 0 ?_; refine St.move rfl ?_) | (refine dk 1 ?_; refine St.assign rfl ?_) | (refine dk 12 ?_; first | refine St.eql rfl rfl ?_ | refine St.eql_pnil pg rfl rfl rfl rfl ?_ | refine St.eql_snil pg rfl rfl rfl rfl ?_ | refine St.beql pg rfl rfl rfl rfl ?_ | fail) | (refine dk 29 ?_; refine St.buildSlice pg rfl rfl rfl rfl rfl rfl rfl (by (repeat (first | exact Fill.nil | (apply Fill.one; rfl; rfl; (focus (first | exact SetL.set (by assumption) | (repeat (first | exact SetL.z | apply SetL.s))))) | (apply Fill.agg; rfl; rfl; (focus (repeat (first | exact SetR.z | (apply SetR.c; (focus (first | exact SetL.set (by assumption) | (repeat (first | exact SetL.z | apply SetL.s)))))))))))) rfl ?_; intro _ _ _ _ _)) | (refine OW.d ?_; refine dk 0 ?_; refine OW.step (gd_none rfl) rfl ?_) | (refine CW.d ?_; first | (refine dk 0 ?_; refine CW.seq ?_) | (refine dk 1 ?_; refine CW.region ?_) | (refine dk 3 ?_; first | refine CW.cond_true rfl (by (first | rfl | assumption | exact decide_eq_true (by first | assumption | omega) | exact decide_eq_false (by first | assumption | exact not_not_intro (by assumption) | omega) | fail)) ?_ | refine CW.cond_false rfl (by (first | rfl | assumption | exact decide_eq_true (by first | assumption | omega) | exact decide_eq_false (by first | assumption | exact not_not_intro (by assumption) | omega) | fail)) ?_ | (refine CW.cond_dnot rfl ?_ ?_ <;> intro _ <;> try (exfalso; omega)) | (refine CW.cond_dec rfl ?_ ?_ <;> intro _ <;> try (exfalso; omega)) | (refine CW.cond rfl ?_ ?_ <;> intro _) | fail) | (refine dk 4 ?_; refine CW.skip ?_) | (refine dk 5 ?_; refine CW.ret ?_)) | refine OW.nil ?_ | refine PK.code_normal ?_ | refine PK.lp_normal ?_ | refine PK.code_ret ?_ | refine PK.lp_ret ?_ | refine PK.nil_normal ?_ | refine PK.nil_ret ?_ | fail | fail)
    exact ⟨_, ResOK.one rfl, Own.nil, Stp.refl _, by simp [blkOf]⟩
  | some a =>
    repeat' (first | (refine St.d ?_; first | (refine dk 0 ?_; refine St.move rfl ?_) | (refine dk 1 ?_; refine St.assign rfl ?_) | (refine dk 12 ?_; first | refine St.eql rfl rfl ?_ | refine St.eql_pnil pg rfl rfl rfl rfl ?_ | refine St.eql_snil pg rfl rfl rfl rfl ?_ | refine St.beql pg rfl rfl rfl rfl ?_ | fail) | (refine dk 29 ?_; refine St.buildSlice pg rfl rfl rfl rfl rfl rfl rfl (by (repeat (first | exact Fill.nil | (apply Fill.one; rfl; rfl; (focus (first | exact SetL.set (by assumption) | (repeat (first | exact SetL.z | apply SetL.s))))) | (apply Fill.agg; rfl; rfl; (focus (repeat (first | exact SetR.z | (apply SetR.c; (focus (first | exact SetL.set (by assumption) | (repeat (first | exact SetL.z | apply SetL.s)))))))))))) rfl ?_; intro _ _ _ _ _)) | (refine OW.d ?_; refine dk 0 ?_; refine OW.step (gd_none rfl) rfl ?_) | (refine CW.d ?_; first | (refine dk 0 ?_; refine CW.seq ?_) | (refine dk 1 ?_; refine CW.region ?_) | (refine dk 3 ?_; first | refine CW.cond_true rfl (by (first | rfl | assumption | exact decide_eq_true (by first | assumption | omega) | exact decide_eq_false (by first | assumption | exact not_not_intro (by assumption) | omega) | fail)) ?_ | refine CW.cond_false rfl (by (first | rfl | assumption | exact decide_eq_true (by first | assumption | omega) | exact decide_eq_false (by first | assumption | exact not_not_intro (by assumption) | omega) | fail)) ?_ | (refine CW.cond_dnot rfl ?_ ?_ <;> intro _ <;> try (exfalso; omega)) | (refine CW.cond_dec rfl ?_ ?_ <;> intro _ <;> try (exfalso; omega)) | (refine CW.cond rfl ?_ ?_ <;> intro _) | fail) | (refine dk 4 ?_; refine CW.skip ?_) | (refine dk 5 ?_; refine CW.ret ?_)) | refine OW.nil ?_ | refine PK.code_normal ?_ | refine PK.lp_normal ?_ | refine PK.code_ret ?_ | refine PK.lp_ret ?_ | refine PK.nil_normal ?_ | refine PK.nil_ret ?_ | fail | fail)
    rename_i nb h1 hn hnb hsz
    refine St.d ?_
    refine dk 25 ?_
    refine St.append pg rfl rfl rfl rfl rfl rfl (len := 0) (vs := []) ⟨(Nat.zero_mul _).symm, .inr ⟨nb, 0, 0, _, rfl, hn.blk, by rw [Nat.zero_mul]; exact Nat.zero_le _, Nat.le_refl _, by rw [Nat.zero_mul, List.take_zero]⟩⟩ (hs.stp (hn.stp (fp := [])) (by simp)).sl (by rw [intsV_length]; exact (Nat.mul_one _).symm) intsV_one ?_ ?_ rfl ?_
    · show (_ + _) * 8 ≤ _
      omega
    · omega
    intro v2 h2 happ
    have hst : Stp [] h h2 := Stp.stp happ.stp hn.stp (fun b hb => .inr (by simp [blkOf] at hb; omega))
    repeat' (first | (refine St.d ?_; first | (refine dk 0 ?_; refine St.move rfl ?_) | (refine dk 1 ?_; refine St.assign rfl ?_) | (refine dk 12 ?_; first | refine St.eql rfl rfl ?_ | refine St.eql_pnil pg rfl rfl rfl rfl ?_ | refine St.eql_snil pg rfl rfl rfl rfl ?_ | refine St.beql pg rfl rfl rfl rfl ?_ | fail) | (refine dk 29 ?_; refine St.buildSlice pg rfl rfl rfl rfl rfl rfl rfl (by (repeat (first | exact Fill.nil | (apply Fill.one; rfl; rfl; (focus (first | exact SetL.set (by assumption) | (repeat (first | exact SetL.z | apply SetL.s))))) | (apply Fill.agg; rfl; rfl; (focus (repeat (first | exact SetR.z | (apply SetR.c; (focus (first | exact SetL.set (by assumption) | (repeat (first | exact SetL.z | apply SetL.s)))))))))))) rfl ?_; intro _ _ _ _ _)) | (refine OW.d ?_; refine dk 0 ?_; refine OW.step (gd_none rfl) rfl ?_) | (refine CW.d ?_; first | (refine dk 0 ?_; refine CW.seq ?_) | (refine dk 1 ?_; refine CW.region ?_) | (refine dk 3 ?_; first | refine CW.cond_true rfl (by (first | rfl | assumption | exact decide_eq_true (by first | assumption | omega) | exact decide_eq_false (by first | assumption | exact not_not_intro (by assumption) | omega) | fail)) ?_ | refine CW.cond_false rfl (by (first | rfl | assumption | exact decide_eq_true (by first | assumption | omega) | exact decide_eq_false (by first | assumption | exact not_not_intro (by assumption) | omega) | fail)) ?_ | (refine CW.cond_dnot rfl ?_ ?_ <;> intro _ <;> try (exfalso; omega)) | (refine CW.cond_dec rfl ?_ ?_ <;> intro _ <;> try (exfalso; omega)) | (refine CW.cond rfl ?_ ?_ <;> intro _) | fail) | (refine dk 4 ?_; refine CW.skip ?_) | (refine dk 5 ?_; refine CW.ret ?_)) | refine OW.nil ?_ | refine PK.code_normal ?_ | refine PK.lp_normal ?_ | refine PK.code_ret ?_ | refine PK.lp_ret ?_ | refine PK.nil_normal ?_ | refine PK.nil_ret ?_ | fail | fail)
    refine ⟨_, ResOK.one rfl, by have := happ.own; rw [Nat.zero_add, List.nil_append] at this; exact this, hst, fun b hb => ?_⟩
    rcases happ.blk with h8 | h8
    · rw [h8] at hb; simp [blkOf] at hb; omega
    · have := h8 b hb; omega
theorem intsR1 {h : Heap} {F : Nat → Prop} {cs : List Value} {l : List Int} (hr : (Rp.int .i64).slice.R h F cs l) : ∃ v, cs = [v] ∧ IntS h v l ∧ (∀ b ∈ rdOf v, F b) ∧ l.length ≤ 9223372036854775807 ∧ ∀ x ∈ l, -9223372036854775808 ≤ x ∧ x ≤ 9223372036854775807 := by
  have hlen := sliceR_len hr
  obtain ⟨v, rfl, hb, _, rows, hs, hl, hr⟩ := hr
  have hx : ∀ (rows : List (List Value)) (l : List Int), rowsR (Rp.int .i64) h F rows l → rows.flatten = intsV l ∧ ∀ x ∈ l, -9223372036854775808 ≤ x ∧ x ≤ 9223372036854775807 := by
    intro rows
    induction rows with
    | nil => intro l hl; have := hl.1; simp at this; rw [List.eq_nil_of_length_eq_zero this.symm]; simp [intsV]
    | cons r rs ih =>
      intro l hl
      match l, hl with
      | [], hl => have := hl.1; simp at this
      | x :: xs, hl =>
        obtain ⟨h1, h2⟩ := ih xs ⟨by have := hl.1; simpa using this, fun i row a hi ha => hl.2 (i + 1) row a (by simpa using hi) (by simpa using ha)⟩
        obtain ⟨rfl, h3⟩ := hl.2 0 r x rfl rfl
        refine ⟨by simp [intsV, h1] , fun y hy => ?_⟩
        rcases List.mem_cons.1 hy with rfl | hy
        · exact wf_i64.1 h3
        · exact h2 y hy
  obtain ⟨h1, h2⟩ := hx rows l ⟨hl, hr⟩
  exact ⟨v, rfl, ⟨h1 ▸ hs⟩, hb, hlen, h2⟩
theorem own_cel {h : Heap} {b o len cap T : Nat} {c : List Int} (ho : Own h (.slice (some ⟨b, o, none⟩) len cap) T 1 len (intsV c)) {i : Nat} {x : Int} (hx : c[i]? = some x) : Cel h ⟨b, o + i, none⟩ (.int .i64 x) := by
  have hlv := ho.len_vs
  rw [intsV_length] at hlv
  have hi := (List.getElem?_eq_some_iff.1 hx).1
  rcases ho.sl.ok with ⟨p, cap', _, h2, _⟩ | ⟨b', o', cap', h2, _, _, _, hc⟩
  · omega
  · simp only [Value.slice.injEq, Option.some.injEq, Addr.mk.injEq] at h2
    obtain ⟨⟨rfl, rfl, _⟩, _, _⟩ := h2
    exact hc.cell (intsV_get hx)
theorem own_set {h : Heap} {b o len cap T : Nat} {c : List Int} (ho : Own h (.slice (some ⟨b, o, none⟩) len cap) T 1 len (intsV c)) {i : Nat} (hi : i < len) :
    ∃ L, Blk h b T L ∧ o + i < L.length ∧ ∀ h' x, Upd h b T (L.set (o + i) (.int .i64 x)) h' → Own h' (.slice (some ⟨b, o, none⟩) len cap) T 1 len (intsV (c.set i x)) := by
  have hlv := ho.len_vs
  rcases ho.ok with ⟨h1, _⟩ | ⟨b', o', cap', L, he, hb, h1, h2, h3⟩
  · cases h1
  cases he
  refine ⟨L, hb, by omega, fun h' x hu => ⟨by rw [intsV_length] at hlv ⊢; simpa using hlv, .inr ⟨b, o, cap, _, rfl, hu.blk, by rw [List.length_set]; exact h1, h2, ?_⟩⟩⟩
  rw [← intsV_set, ← h3]
  apply List.ext_getElem?
  intro j
  simp only [List.getElem?_take, List.getElem?_drop, List.getElem?_set, List.length_take, List.length_drop]
  by_cases hj : j < len * 1
  · rw [if_pos hj]
    by_cases hij : i = j
    · subst hij
      have e1 : o + i < L.length := by omega
      have e2 : i < min (len * 1) (L.length - o) := by omega
      rw [if_pos rfl, if_pos e1, if_pos rfl, if_pos e2]
    · rw [if_neg (by omega), if_neg hij, if_pos hj]
  · rw [if_neg hj, if_neg hj]
    by_cases hij : i = j
    · omega
    · rw [if_neg hij]
structure CkV (h : Heap) (v : Value) (c : List Int) : Prop where
  s : IntS h v c
  l : c.length ≤ 9223372036854775807
  r : ∀ x ∈ c, -9223372036854775808 ≤ x ∧ x ≤ 9223372036854775807
theorem CkV.stp {fp : List Nat} {h h' : Heap} {v : Value} {c : List Int} (x : Stp fp h h') (k : CkV h v c) (hn : ∀ b ∈ rdOf v, b ∉ fp) : CkV h' v c := ⟨k.s.stp x hn, k.l, k.r⟩
theorem CkV.grow {h h' : Heap} {v : Value} {c : List Int} (x : Stp [] h h') (k : CkV h v c) : CkV h' v c := k.stp x (by simp)
theorem CkV.ofR {h : Heap} {F : Nat → Prop} {cs : List Value} {c : List Int} (hr : (Rp.int .i64).slice.R h F cs c) : ∃ v, cs = [v] ∧ CkV h v c ∧ ∀ b ∈ rdOf v, F b := by
  obtain ⟨v, h1, h2, h3, h4, h5⟩ := intsR1 hr
  exact ⟨v, h1, ⟨h2, h4, h5⟩, h3⟩
theorem CkV.toR {h : Heap} {v : Value} {c : List Int} (k : CkV h v c) : (Rp.int .i64).slice.R h (fun _ => True) [v] c := by
  refine ⟨v, rfl, fun _ _ => trivial, k.l, c.map (fun x => [.int .i64 x]), ?_, ⟨by simp, fun i row a hi ha => ?_⟩⟩
  · have : (c.map (fun x => [Value.int .i64 x])).flatten = intsV c := by
      have : ∀ c : List Int, (c.map (fun x => [Value.int .i64 x])).flatten = intsV c := by
        intro c
        induction c with
        | nil => rfl
        | cons x c ih => simp only [List.map_cons, List.flatten_cons, ih]; rfl
      exact this c
    rw [this]; exact k.s.sl
  · rw [List.getElem?_map, ha] at hi
    cases hi
    exact ⟨rfl, wf_i64.2 (k.r a (List.mem_of_getElem? ha))⟩
theorem CkV.toRF {h : Heap} {F : Nat → Prop} {v : Value} {c : List Int} (k : CkV h v c) (hF : ∀ b ∈ rdOf v, F b) : (Rp.int .i64).slice.R h F [v] c := by
  obtain ⟨w, e, _, h1, rows, h2, h3, h4⟩ := k.toR
  simp only [List.cons.injEq, and_true] at e
  subst e
  exact ⟨v, rfl, hF, h1, rows, h2, h3, fun i row a hi ha => h4 i row a hi ha⟩
theorem equal_ints {h : Heap} {v1 v2 : Value} {a b : List Int} (h1 : IntS h v1 a) (h2 : IntS h v2 b) (hl : a.length ≤ 9223372036854775807) :
    CallsH Try.prog 19 #[v1, v2] h fun r h' => r = .bool (decide (a = b)) ∧ h' = h := by
  obtain ⟨p1, cap1, rfl⟩ := h1.sl.shape
  obtain ⟨p2, cap2, rfl⟩ := h2.sl.shape
  refine CallsH.of (l := [_, _]) Try.func19 rfl Try.ntmps19 Try.results19 rfl ?_
  repeat' (first | (refine St.d ?_; first | (refine dk 0 ?_; refine St.move rfl ?_) | (refine dk 2 ?_; first | refine St.load pg rfl rfl rfl (by (first | assumption | exact Blk.cel (by (repeat (first | assumption | exact New.blk (by assumption) | exact Upd.blk (by assumption) | (apply New.old; assumption) | (apply Upd.keep; assumption; (focus (first | assumption | exact Ne.symm (by assumption) | omega | (intro hne; simp only at hne; omega)))) | (apply Stp.blk0; assumption) | (apply Stp.blk1; assumption; (focus (first | assumption | exact Ne.symm (by assumption) | omega | (intro hne; simp only at hne; omega))))))) (by rfl) | exact Cels.fld (by assumption) (by rfl) | exact Cels.fld0 (by assumption) (by rfl) | (repeat (first | assumption | (apply New.oldc; assumption) | (apply Upd.keepc; assumption; (focus (first | assumption | exact Ne.symm (by assumption) | omega | (intro hne; simp only at hne; omega)))) | (apply Stp.cel0; assumption))))) (by first | exact List.not_mem_nil | assumption) rfl ?_ | refine St.loadS pg rfl rfl rfl (by first | assumption | exact Blk.cels0 (by (repeat (first | assumption | exact New.blk (by assumption) | exact Upd.blk (by assumption) | (apply New.old; assumption) | (apply Upd.keep; assumption; (focus (first | assumption | exact Ne.symm (by assumption) | omega | (intro hne; simp only at hne; omega)))) | (apply Stp.blk0; assumption) | (apply Stp.blk1; assumption; (focus (first | assumption | exact Ne.symm (by assumption) | omega | (intro hne; simp only at hne; omega))))))) | (repeat (first | assumption | (apply Cels.newc; assumption) | (apply Cels.stpc; assumption) | (apply Cels.updc; assumption; (focus (first | assumption | exact Ne.symm (by assumption) | omega | (intro hne; simp only at hne; omega))))))) (by first | exact List.not_mem_nil | assumption) rfl rfl ?_ | fail) | (refine dk 1 ?_; refine St.assign rfl ?_) | (refine dk 13 ?_; first | refine St.neq rfl rfl ?_ | refine St.neq_pnil pg rfl rfl rfl rfl ?_ | refine St.bneq pg rfl rfl rfl rfl ?_ | fail) | (refine dk 14 ?_; refine St.lss rfl rfl ?_) | (refine dk 18 ?_; refine St.add rfl rfl (by omega) ?_) | (refine dk 10 ?_; first | refine St.indexAddr1 pg rfl rfl rfl rfl rfl rfl rfl (by first | omega | decide | exact Nat.succ_pos _ | (show 0 < _; omega)) ?_ | refine St.indexAddr pg rfl rfl rfl rfl rfl rfl (by first | omega | decide | exact Nat.succ_pos _ | (show 0 < _; omega)) ?_ | refine St.indexAddrA1 pg rfl rfl rfl rfl rfl rfl rfl (by first | omega | decide) ?_ | refine St.indexAddrA pg rfl rfl rfl rfl rfl rfl (by first | omega | decide) ?_ | fail) | (refine dk 11 ?_; refine St.len pg rfl rfl rfl ?_)) | (refine OW.d ?_; refine dk 0 ?_; refine OW.step (gd_none rfl) rfl ?_) | (refine CW.d ?_; first | (refine dk 0 ?_; refine CW.seq ?_) | (refine dk 1 ?_; refine CW.region ?_) | (refine dk 3 ?_; first | refine CW.cond_true rfl (by (first | rfl | assumption | exact decide_eq_true (by first | assumption | omega) | exact decide_eq_false (by first | assumption | exact not_not_intro (by assumption) | omega) | fail)) ?_ | refine CW.cond_false rfl (by (first | rfl | assumption | exact decide_eq_true (by first | assumption | omega) | exact decide_eq_false (by first | assumption | exact not_not_intro (by assumption) | omega) | fail)) ?_ | (refine CW.cond_dnot rfl ?_ ?_ <;> intro _ <;> try (exfalso; omega)) | (refine CW.cond_dec rfl ?_ ?_ <;> intro _ <;> try (exfalso; omega)) | (refine CW.cond rfl ?_ ?_ <;> intro _) | fail) | (refine dk 4 ?_; refine CW.skip ?_) | (refine dk 5 ?_; refine CW.ret ?_) | (refine dk 6 ?_; refine CW.exit ?_) | (refine dk 7 ?_; refine CW.block ?_)) | refine OW.nil ?_ | refine PK.code_normal ?_ | refine PK.blk_normal ?_ | refine PK.lp_normal ?_ | refine PK.code_ret ?_ | refine PK.blk_ret ?_ | refine PK.lp_ret ?_ | refine PK.code_exit ?_ | refine PK.lp_exit ?_ | refine PK.blk_exit ?_ | refine PK.blk_exit_ne rfl ?_ | refine PK.nil_normal ?_ | refine PK.nil_ret ?_ | refine RW.done ?_ | refine RW.none | refine RW.alt ?_ ?_ | refine RW.step rfl (gd_none rfl) rfl ?_ | fail)
  · rename_i hne
    refine ⟨_, ResOK.one rfl, ?_, rfl⟩
    congr 1
    exact (decide_eq_false (fun e => hne (by rw [e]))).symm
  rename_i hne
  have hab : a.length = b.length := by omega
  refine CW.loop (fun i : Nat => [(0, .slice p1 a.length cap1), (1, .slice p2 b.length cap2), (12, .int .i64 a.length), (13, .int .i64 i)]) (fun i h' => h = h' ∧ i ≤ a.length ∧ a.take i = b.take i) (fun i => a.length - i) 0 (by (repeat (first | exact trivial | refine ⟨rfl, ?_⟩))) ⟨rfl, Nat.zero_le _, by simp⟩ ?_
  rintro i _ ⟨rfl, hi, heq⟩
  by_cases hin : i < a.length
  · obtain ⟨x, hx⟩ : ∃ x, a[i]? = some x := ⟨_, List.getElem?_eq_getElem hin⟩
    obtain ⟨y, hy⟩ : ∃ y, b[i]? = some y := ⟨_, List.getElem?_eq_getElem (by omega)⟩
    rcases h1.cases with e | ⟨b1, o1, c1, e1, _, _⟩
    · subst e; simp at hin
    rcases h2.cases with e | ⟨b2, o2, c2, e2, _, _⟩
    · exfalso; rw [e] at hab; simp only [List.length_nil] at hab; omega
    simp only [Value.slice.injEq] at e1 e2
    obtain ⟨rfl, _, rfl⟩ := e1
    obtain ⟨rfl, _, rfl⟩ := e2
    have hcx := h1.cel hx
    have hcy := h2.cel hy
    repeat' (first | (refine St.d ?_; first | (refine dk 0 ?_; refine St.move rfl ?_) | (refine dk 2 ?_; first | refine St.load pg rfl rfl rfl (by (first | assumption | exact Blk.cel (by (repeat (first | assumption | exact New.blk (by assumption) | exact Upd.blk (by assumption) | (apply New.old; assumption) | (apply Upd.keep; assumption; (focus (first | assumption | exact Ne.symm (by assumption) | omega | (intro hne; simp only at hne; omega)))) | (apply Stp.blk0; assumption) | (apply Stp.blk1; assumption; (focus (first | assumption | exact Ne.symm (by assumption) | omega | (intro hne; simp only at hne; omega))))))) (by rfl) | exact Cels.fld (by assumption) (by rfl) | exact Cels.fld0 (by assumption) (by rfl) | (repeat (first | assumption | (apply New.oldc; assumption) | (apply Upd.keepc; assumption; (focus (first | assumption | exact Ne.symm (by assumption) | omega | (intro hne; simp only at hne; omega)))) | (apply Stp.cel0; assumption))))) (by first | exact List.not_mem_nil | assumption) rfl ?_ | refine St.loadS pg rfl rfl rfl (by first | assumption | exact Blk.cels0 (by (repeat (first | assumption | exact New.blk (by assumption) | exact Upd.blk (by assumption) | (apply New.old; assumption) | (apply Upd.keep; assumption; (focus (first | assumption | exact Ne.symm (by assumption) | omega | (intro hne; simp only at hne; omega)))) | (apply Stp.blk0; assumption) | (apply Stp.blk1; assumption; (focus (first | assumption | exact Ne.symm (by assumption) | omega | (intro hne; simp only at hne; omega))))))) | (repeat (first | assumption | (apply Cels.newc; assumption) | (apply Cels.stpc; assumption) | (apply Cels.updc; assumption; (focus (first | assumption | exact Ne.symm (by assumption) | omega | (intro hne; simp only at hne; omega))))))) (by first | exact List.not_mem_nil | assumption) rfl rfl ?_ | fail) | (refine dk 1 ?_; refine St.assign rfl ?_) | (refine dk 13 ?_; first | refine St.neq rfl rfl ?_ | refine St.neq_pnil pg rfl rfl rfl rfl ?_ | refine St.bneq pg rfl rfl rfl rfl ?_ | fail) | (refine dk 14 ?_; refine St.lss rfl rfl ?_) | (refine dk 18 ?_; refine St.add rfl rfl (by omega) ?_) | (refine dk 10 ?_; first | refine St.indexAddr1 pg rfl rfl rfl rfl rfl rfl rfl (by first | omega | decide | exact Nat.succ_pos _ | (show 0 < _; omega)) ?_ | refine St.indexAddr pg rfl rfl rfl rfl rfl rfl (by first | omega | decide | exact Nat.succ_pos _ | (show 0 < _; omega)) ?_ | refine St.indexAddrA1 pg rfl rfl rfl rfl rfl rfl rfl (by first | omega | decide) ?_ | refine St.indexAddrA pg rfl rfl rfl rfl rfl rfl (by first | omega | decide) ?_ | fail) | (refine dk 11 ?_; refine St.len pg rfl rfl rfl ?_)) | (refine OW.d ?_; refine dk 0 ?_; refine OW.step (gd_none rfl) rfl ?_) | (refine CW.d ?_; first | (refine dk 0 ?_; refine CW.seq ?_) | (refine dk 1 ?_; refine CW.region ?_) | (refine dk 3 ?_; first | refine CW.cond_true rfl (by (first | rfl | assumption | exact decide_eq_true (by first | assumption | omega) | exact decide_eq_false (by first | assumption | exact not_not_intro (by assumption) | omega) | fail)) ?_ | refine CW.cond_false rfl (by (first | rfl | assumption | exact decide_eq_true (by first | assumption | omega) | exact decide_eq_false (by first | assumption | exact not_not_intro (by assumption) | omega) | fail)) ?_ | (refine CW.cond_dnot rfl ?_ ?_ <;> intro _ <;> try (exfalso; omega)) | (refine CW.cond_dec rfl ?_ ?_ <;> intro _ <;> try (exfalso; omega)) | (refine CW.cond rfl ?_ ?_ <;> intro _) | fail) | (refine dk 4 ?_; refine CW.skip ?_) | (refine dk 5 ?_; refine CW.ret ?_) | (refine dk 6 ?_; refine CW.exit ?_) | (refine dk 7 ?_; refine CW.block ?_)) | refine OW.nil ?_ | refine PK.code_normal ?_ | refine PK.blk_normal ?_ | refine PK.lp_normal ?_ | refine PK.code_ret ?_ | refine PK.blk_ret ?_ | refine PK.lp_ret ?_ | refine PK.code_exit ?_ | refine PK.lp_exit ?_ | refine PK.blk_exit ?_ | refine PK.blk_exit_ne rfl ?_ | refine PK.nil_normal ?_ | refine PK.nil_ret ?_ | refine RW.done ?_ | refine RW.none | refine RW.alt ?_ ?_ | refine RW.step rfl (gd_none rfl) rfl ?_ | (refine CW.d ?_; refine dk 2 ?_; refine CW.region_draw [] ord19 pg.mix (by kernel_rfl) (by kernel_rfl) ?_) | fail)
    · rename_i hxy
      refine ⟨_, ResOK.one rfl, ?_, rfl⟩
      congr 1
      refine (decide_eq_false (fun e => hxy ?_)).symm
      subst e
      rw [hx] at hy; cases hy; rfl
    · rename_i hxy
      refine ⟨i + 1, by (repeat (first | exact trivial | refine ⟨rfl, ?_⟩)), ⟨rfl, hin, ?_⟩, by omega⟩
      rw [List.take_add_one, List.take_add_one, hx, hy, heq]
      first
        | (subst hxy; rfl)
        | (have : x = y := by omega
           subst this; rfl)
  · have : i = a.length := by omega
    subst this
    have he : a = b := by
      rw [List.take_length] at heq
      rw [heq, List.take_of_length_le (by omega)]
    repeat' (first | (refine St.d ?_; first | (refine dk 0 ?_; refine St.move rfl ?_) | (refine dk 2 ?_; first | refine St.load pg rfl rfl rfl (by (first | assumption | exact Blk.cel (by (repeat (first | assumption | exact New.blk (by assumption) | exact Upd.blk (by assumption) | (apply New.old; assumption) | (apply Upd.keep; assumption; (focus (first | assumption | exact Ne.symm (by assumption) | omega | (intro hne; simp only at hne; omega)))) | (apply Stp.blk0; assumption) | (apply Stp.blk1; assumption; (focus (first | assumption | exact Ne.symm (by assumption) | omega | (intro hne; simp only at hne; omega))))))) (by rfl) | exact Cels.fld (by assumption) (by rfl) | exact Cels.fld0 (by assumption) (by rfl) | (repeat (first | assumption | (apply New.oldc; assumption) | (apply Upd.keepc; assumption; (focus (first | assumption | exact Ne.symm (by assumption) | omega | (intro hne; simp only at hne; omega)))) | (apply Stp.cel0; assumption))))) (by first | exact List.not_mem_nil | assumption) rfl ?_ | refine St.loadS pg rfl rfl rfl (by first | assumption | exact Blk.cels0 (by (repeat (first | assumption | exact New.blk (by assumption) | exact Upd.blk (by assumption) | (apply New.old; assumption) | (apply Upd.keep; assumption; (focus (first | assumption | exact Ne.symm (by assumption) | omega | (intro hne; simp only at hne; omega)))) | (apply Stp.blk0; assumption) | (apply Stp.blk1; assumption; (focus (first | assumption | exact Ne.symm (by assumption) | omega | (intro hne; simp only at hne; omega))))))) | (repeat (first | assumption | (apply Cels.newc; assumption) | (apply Cels.stpc; assumption) | (apply Cels.updc; assumption; (focus (first | assumption | exact Ne.symm (by assumption) | omega | (intro hne; simp only at hne; omega))))))) (by first | exact List.not_mem_nil | assumption) rfl rfl ?_ | fail) | (refine dk 1 ?_; refine St.assign rfl ?_) | (refine dk 13 ?_; first | refine St.neq rfl rfl ?_ | refine St.neq_pnil pg rfl rfl rfl rfl ?_ | refine St.bneq pg rfl rfl rfl rfl ?_ | fail) | (refine dk 14 ?_; refine St.lss rfl rfl ?_) | (refine dk 18 ?_; refine St.add rfl rfl (by omega) ?_) | (refine dk 10 ?_; first | refine St.indexAddr1 pg rfl rfl rfl rfl rfl rfl rfl (by first | omega | decide | exact Nat.succ_pos _ | (show 0 < _; omega)) ?_ | refine St.indexAddr pg rfl rfl rfl rfl rfl rfl (by first | omega | decide | exact Nat.succ_pos _ | (show 0 < _; omega)) ?_ | refine St.indexAddrA1 pg rfl rfl rfl rfl rfl rfl rfl (by first | omega | decide) ?_ | refine St.indexAddrA pg rfl rfl rfl rfl rfl rfl (by first | omega | decide) ?_ | fail) | (refine dk 11 ?_; refine St.len pg rfl rfl rfl ?_)) | (refine OW.d ?_; refine dk 0 ?_; refine OW.step (gd_none rfl) rfl ?_) | (refine CW.d ?_; first | (refine dk 0 ?_; refine CW.seq ?_) | (refine dk 1 ?_; refine CW.region ?_) | (refine dk 3 ?_; first | refine CW.cond_true rfl (by (first | rfl | assumption | exact decide_eq_true (by first | assumption | omega) | exact decide_eq_false (by first | assumption | exact not_not_intro (by assumption) | omega) | fail)) ?_ | refine CW.cond_false rfl (by (first | rfl | assumption | exact decide_eq_true (by first | assumption | omega) | exact decide_eq_false (by first | assumption | exact not_not_intro (by assumption) | omega) | fail)) ?_ | (refine CW.cond_dnot rfl ?_ ?_ <;> intro _ <;> try (exfalso; omega)) | (refine CW.cond_dec rfl ?_ ?_ <;> intro _ <;> try (exfalso; omega)) | (refine CW.cond rfl ?_ ?_ <;> intro _) | fail) | (refine dk 4 ?_; refine CW.skip ?_) | (refine dk 5 ?_; refine CW.ret ?_) | (refine dk 6 ?_; refine CW.exit ?_) | (refine dk 7 ?_; refine CW.block ?_)) | refine OW.nil ?_ | refine PK.code_normal ?_ | refine PK.blk_normal ?_ | refine PK.lp_normal ?_ | refine PK.code_ret ?_ | refine PK.blk_ret ?_ | refine PK.lp_ret ?_ | refine PK.code_exit ?_ | refine PK.lp_exit ?_ | refine PK.blk_exit ?_ | refine PK.blk_exit_ne rfl ?_ | refine PK.nil_normal ?_ | refine PK.nil_ret ?_ | refine RW.done ?_ | refine RW.none | refine RW.alt ?_ ?_ | refine RW.step rfl (gd_none rfl) rfl ?_ | fail)
    refine ⟨_, ResOK.one rfl, ?_, rfl⟩
    congr 1
    exact (decide_eq_true he).symm
theorem ints_ok {h : Heap} {F : Nat → Prop} {v : Value} {c : List Int} (hc : (Rp.int .i64).slice.R h F [v] c) : CkV h v c := by
  obtain ⟨v', e, h1, _⟩ := CkV.ofR hc
  simp only [List.cons.injEq, and_true] at e
  subst e
  exact h1
theorem rdInt : RdT Try.prog 3 (Rp.int .i64) := RdT.int Try.underlying3 (by kernel_rfl)
theorem rdInts : RdT Try.prog 37 (Rp.int .i64).slice := RdT.slice Try.underlying37 (by kernel_rfl) rdInt (by decide)
def rng (x : Int) : Prop := -9223372036854775808 ≤ x ∧ x ≤ 9223372036854775807
end Go.Proofs.Ytdoefbnjehngmaa
