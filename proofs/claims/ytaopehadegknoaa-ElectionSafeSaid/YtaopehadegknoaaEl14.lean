/- Parts of a list of messages, and the contract of Delete on it; conditions: the list is one's own, the index lies in it. -/
import Derived.Test.YtaopehadegknoaaEngI
import Derived.Test.YtaopehadegknoaaEl8
namespace Go.Proofs.Ytaopehadegknoaa
open Go Go.CF
set_option maxRecDepth 20000

theorem msgsV_take : ∀ (l : List Msg) (k : Nat), (msgsV l).take (k * 18) = msgsV (l.take k)
  | [], k => by simp [msgsV]
  | m :: l, 0 => by simp [msgsV]
  | m :: l, k + 1 => by
    have e : msgsV (m :: l) = msgV m ++ msgsV l := rfl
    have e2 : (m :: l).take (k + 1) = m :: l.take k := rfl
    rw [e, e2, show (k + 1) * 18 = 18 + k * 18 by omega, List.take_append, List.take_of_length_le (by rw [msgV_length]; omega), msgV_length, Nat.add_sub_cancel_left, msgsV_take l k]
    rfl
theorem msgsV_drop : ∀ (l : List Msg) (k : Nat), (msgsV l).drop (k * 18) = msgsV (l.drop k)
  | [], k => by simp [msgsV]
  | m :: l, 0 => by simp
  | m :: l, k + 1 => by
    have e : msgsV (m :: l) = msgV m ++ msgsV l := rfl
    rw [e, show (k + 1) * 18 = 18 + k * 18 by omega, ← List.drop_drop, List.drop_left' (msgV_length m), msgsV_drop l k]
    rfl
theorem subA_zero {b o sz cap : Nat} : subA (some ⟨b, o, none⟩) sz 0 cap = some ⟨b, o, none⟩ := by
  unfold subA
  split
  · rfl
  · simp [addr_add]
theorem MsgS.front {h : Heap} {b o len cap i : Nat} {box : List Msg} (hs : MsgS h (.slice (some ⟨b, o, none⟩) len cap) box) (hi : i ≤ box.length) : MsgS h (.slice (some ⟨b, o, none⟩) i cap) (box.take i) := by
  rcases hs.own.ok with ⟨h1, _⟩ | ⟨b', o', cap', l, he, hb, h1, h2, h3⟩
  · cases h1
  · cases he
    have e : (box.take i).length = i := by simp; omega
    refine ⟨⟨msgsV_length _, .inr ⟨b, o, cap, l, by rw [e], hb, h1, by omega, ?_⟩⟩⟩
    rw [e, ← msgsV_take, ← h3, List.take_take]
    congr 1
    omega
theorem MsgS.back {h : Heap} {b o len cap k : Nat} {box : List Msg} (hs : MsgS h (.slice (some ⟨b, o, none⟩) len cap) box) (hk : k ≤ box.length) :
    MsgS h (.slice (subA (some ⟨b, o, none⟩) 18 k cap) (len - k) (cap - k)) (box.drop k) ∧ ∀ c ∈ blkOf (.slice (subA (some ⟨b, o, none⟩) 18 k cap) (len - k) (cap - k)), c = b := by
  rcases hs.own.ok with ⟨h1, _⟩ | ⟨b', o', cap', l, he, hb, h1, h2, h3⟩
  · cases h1
  · have he' := he
    simp only [Value.slice.injEq, Option.some.injEq, Addr.mk.injEq] at he'
    obtain ⟨⟨rfl, rfl, _⟩, hlen, rfl⟩ := he'
    subst hlen
    have e : (box.drop k).length = box.length - k := by simp
    have h4 : (l.drop (o + k * 18)).take ((box.length - k) * 18) = msgsV (box.drop k) := by
      rw [← msgsV_drop, ← h3, List.drop_take, List.drop_drop]
      congr 1
      rw [Nat.sub_mul]
    unfold subA
    split
    · rename_i hc
      have hk' : k = box.length := by omega
      subst hk'
      refine ⟨⟨⟨msgsV_length _, .inr ⟨b, o, cap - box.length, l, by rw [e], hb, ?_, by rw [e]; omega, by rw [e, Nat.sub_self, List.drop_length]; simp [msgsV]⟩⟩⟩, fun c hc => by simpa [blkOf] using hc⟩
      have : cap - box.length = 0 := by omega
      rw [this]; omega
    · simp only [Option.map_some, addr_add]
      refine ⟨⟨⟨msgsV_length _, .inr ⟨b, o + k * 18, cap - k, l, by rw [e], hb, ?_, by rw [e]; omega, by rw [e]; exact h4⟩⟩⟩, fun c hc => by simpa [blkOf] using hc⟩
      rw [Nat.sub_mul]; omega

theorem delete_any {h : Heap} {bv : Value} {box : List Msg} {i : Nat} (hms : MsgS h bv box) (hok : ∀ m ∈ box, m.ok) (hi : i < box.length) (hl : box.length ≤ 1000000) :
    CallsH Try.prog 25 #[bv, .int .i64 i, .int .i64 ((i : Int) + 1)] h fun r h' => MsgS h' r (box.eraseIdx i) ∧ Stp (blkOf bv) h h' ∧ blkOf r = blkOf bv := by
  obtain ⟨len, hlen⟩ : ∃ len, box.length = len := ⟨_, rfl⟩
  obtain ⟨b, o, cap, rfl, hcap, hbl⟩ := hms.full hlen (by omega)
  refine CallsH.of (l := [_, _, _]) Try.func25 rfl Try.ntmps25 Try.results25 rfl ?_
  repeat' (first | (refine St.d ?_; first | (refine dk 0 ?_; refine St.move rfl ?_) | (refine dk 1 ?_; refine St.assign rfl ?_) | (refine dk 12 ?_; first | refine St.eql rfl rfl ?_ | refine St.eql_pnil pg rfl rfl rfl rfl ?_ | refine St.eql_snil pg rfl rfl rfl rfl ?_ | refine St.beql pg rfl rfl rfl rfl ?_ | fail) | (refine dk 11 ?_; refine St.len pg rfl rfl rfl ?_)) | (refine OW.d ?_; refine dk 0 ?_; refine OW.step (gd_none rfl) rfl ?_) | (refine CW.d ?_; first | (refine dk 0 ?_; refine CW.seq ?_) | (refine dk 1 ?_; refine CW.region ?_) | (refine dk 3 ?_; first | refine CW.cond_true rfl (by (first | rfl | assumption | exact decide_eq_true (by first | assumption | omega) | exact decide_eq_false (by first | assumption | exact not_not_intro (by assumption) | omega) | fail)) ?_ | refine CW.cond_false rfl (by (first | rfl | assumption | exact decide_eq_true (by first | assumption | omega) | exact decide_eq_false (by first | assumption | exact not_not_intro (by assumption) | omega) | fail)) ?_ | (refine CW.cond_dnot rfl ?_ ?_ <;> intro _ <;> try (exfalso; omega)) | (refine CW.cond_dec rfl ?_ ?_ <;> intro _ <;> try (exfalso; omega)) | (refine CW.cond rfl ?_ ?_ <;> intro _) | fail) | (refine dk 4 ?_; refine CW.skip ?_) | (refine dk 5 ?_; refine CW.ret ?_)) | refine OW.nil ?_ | refine PK.code_normal ?_ | refine PK.lp_normal ?_ | refine PK.code_ret ?_ | refine PK.lp_ret ?_ | refine PK.nil_normal ?_ | refine PK.nil_ret ?_ | refine RW.done ?_ | refine RW.none | refine RW.alt ?_ ?_ | refine RW.step rfl (gd_none rfl) rfl ?_ | fail)
  refine St.d ?_
  refine dk 38 ?_
  refine St.sliceLHM pg rfl rfl rfl rfl rfl rfl rfl (l' := i) (m' := i + 1) (m2 := len) rfl (by simp) rfl (by omega) (by omega) (by omega) ?_
  repeat' (first | (refine St.d ?_; first | (refine dk 0 ?_; refine St.move rfl ?_) | (refine dk 1 ?_; refine St.assign rfl ?_) | (refine dk 12 ?_; first | refine St.eql rfl rfl ?_ | refine St.eql_pnil pg rfl rfl rfl rfl ?_ | refine St.eql_snil pg rfl rfl rfl rfl ?_ | refine St.beql pg rfl rfl rfl rfl ?_ | fail) | (refine dk 11 ?_; refine St.len pg rfl rfl rfl ?_)) | (refine OW.d ?_; refine dk 0 ?_; refine OW.step (gd_none rfl) rfl ?_) | (refine CW.d ?_; first | (refine dk 0 ?_; refine CW.seq ?_) | (refine dk 1 ?_; refine CW.region ?_) | (refine dk 3 ?_; first | refine CW.cond_true rfl (by (first | rfl | assumption | exact decide_eq_true (by first | assumption | omega) | exact decide_eq_false (by first | assumption | exact not_not_intro (by assumption) | omega) | fail)) ?_ | refine CW.cond_false rfl (by (first | rfl | assumption | exact decide_eq_true (by first | assumption | omega) | exact decide_eq_false (by first | assumption | exact not_not_intro (by assumption) | omega) | fail)) ?_ | (refine CW.cond_dnot rfl ?_ ?_ <;> intro _ <;> try (exfalso; omega)) | (refine CW.cond_dec rfl ?_ ?_ <;> intro _ <;> try (exfalso; omega)) | (refine CW.cond rfl ?_ ?_ <;> intro _) | fail) | (refine dk 4 ?_; refine CW.skip ?_) | (refine dk 5 ?_; refine CW.ret ?_)) | refine OW.nil ?_ | refine PK.code_normal ?_ | refine PK.lp_normal ?_ | refine PK.code_ret ?_ | refine PK.lp_ret ?_ | refine PK.nil_normal ?_ | refine PK.nil_ret ?_ | refine RW.done ?_ | refine RW.none | refine RW.alt ?_ ?_ | refine RW.step rfl (gd_none rfl) rfl ?_ | fail)
  have hfr := hms.front (i := i) (by omega)
  obtain ⟨hbk, hbkb⟩ := hms.back (k := i + 1) (by omega)
  refine CW.d ?_
  refine dk 2 ?_
  refine CW.region_draw [] ord25 pg.mix (by kernel_rfl) (by kernel_rfl) ?_
  repeat' (first | (refine St.d ?_; first | (refine dk 0 ?_; refine St.move rfl ?_) | (refine dk 1 ?_; refine St.assign rfl ?_) | (refine dk 12 ?_; first | refine St.eql rfl rfl ?_ | refine St.eql_pnil pg rfl rfl rfl rfl ?_ | refine St.eql_snil pg rfl rfl rfl rfl ?_ | refine St.beql pg rfl rfl rfl rfl ?_ | fail) | (refine dk 11 ?_; refine St.len pg rfl rfl rfl ?_)) | (refine OW.d ?_; refine dk 0 ?_; refine OW.step (gd_none rfl) rfl ?_) | (refine CW.d ?_; first | (refine dk 0 ?_; refine CW.seq ?_) | (refine dk 1 ?_; refine CW.region ?_) | (refine dk 3 ?_; first | refine CW.cond_true rfl (by (first | rfl | assumption | exact decide_eq_true (by first | assumption | omega) | exact decide_eq_false (by first | assumption | exact not_not_intro (by assumption) | omega) | fail)) ?_ | refine CW.cond_false rfl (by (first | rfl | assumption | exact decide_eq_true (by first | assumption | omega) | exact decide_eq_false (by first | assumption | exact not_not_intro (by assumption) | omega) | fail)) ?_ | (refine CW.cond_dnot rfl ?_ ?_ <;> intro _ <;> try (exfalso; omega)) | (refine CW.cond_dec rfl ?_ ?_ <;> intro _ <;> try (exfalso; omega)) | (refine CW.cond rfl ?_ ?_ <;> intro _) | fail) | (refine dk 4 ?_; refine CW.skip ?_) | (refine dk 5 ?_; refine CW.ret ?_)) | refine OW.nil ?_ | refine PK.code_normal ?_ | refine PK.lp_normal ?_ | refine PK.code_ret ?_ | refine PK.lp_ret ?_ | refine PK.nil_normal ?_ | refine PK.nil_ret ?_ | refine RW.done ?_ | refine RW.none | refine RW.alt ?_ ?_ | refine RW.step rfl (gd_none rfl) rfl ?_ | fail)
  refine St.d ?_
  refine dk 38 ?_
  refine St.sliceH pg rfl rfl rfl rfl rfl (m' := i) rfl (by omega) ?_
  repeat' (first | (refine St.d ?_; first | (refine dk 0 ?_; refine St.move rfl ?_) | (refine dk 1 ?_; refine St.assign rfl ?_) | (refine dk 12 ?_; first | refine St.eql rfl rfl ?_ | refine St.eql_pnil pg rfl rfl rfl rfl ?_ | refine St.eql_snil pg rfl rfl rfl rfl ?_ | refine St.beql pg rfl rfl rfl rfl ?_ | fail) | (refine dk 11 ?_; refine St.len pg rfl rfl rfl ?_)) | (refine OW.d ?_; refine dk 0 ?_; refine OW.step (gd_none rfl) rfl ?_) | (refine CW.d ?_; first | (refine dk 0 ?_; refine CW.seq ?_) | (refine dk 1 ?_; refine CW.region ?_) | (refine dk 3 ?_; first | refine CW.cond_true rfl (by (first | rfl | assumption | exact decide_eq_true (by first | assumption | omega) | exact decide_eq_false (by first | assumption | exact not_not_intro (by assumption) | omega) | fail)) ?_ | refine CW.cond_false rfl (by (first | rfl | assumption | exact decide_eq_true (by first | assumption | omega) | exact decide_eq_false (by first | assumption | exact not_not_intro (by assumption) | omega) | fail)) ?_ | (refine CW.cond_dnot rfl ?_ ?_ <;> intro _ <;> try (exfalso; omega)) | (refine CW.cond_dec rfl ?_ ?_ <;> intro _ <;> try (exfalso; omega)) | (refine CW.cond rfl ?_ ?_ <;> intro _) | fail) | (refine dk 4 ?_; refine CW.skip ?_) | (refine dk 5 ?_; refine CW.ret ?_)) | refine OW.nil ?_ | refine PK.code_normal ?_ | refine PK.lp_normal ?_ | refine PK.code_ret ?_ | refine PK.lp_ret ?_ | refine PK.nil_normal ?_ | refine PK.nil_ret ?_ | refine RW.done ?_ | refine RW.none | refine RW.alt ?_ ?_ | refine RW.step rfl (gd_none rfl) rfl ?_ | fail)
  refine St.d ?_
  refine dk 38 ?_
  refine St.sliceL pg rfl rfl rfl rfl rfl (l' := i + 1) (by simp) (by omega) ?_
  rw [subA_zero]
  have etl : (box.take i).length = i := by simp; omega
  have edl : (box.drop (i + 1)).length = len - (i + 1) := by simp; omega
  have hfo := hfr.own
  have hbs := hbk.own.sl
  rw [etl] at hfo
  rw [edl] at hbs
  refine RW.step rfl (gd_none rfl) rfl ?_
  refine St.d ?_
  refine dk 25 ?_
  refine St.append pg rfl rfl rfl rfl rfl rfl hfo hbs (by rw [msgsV_length, edl]; rfl) (msgsV_one (fun m hm => hok m (List.mem_of_mem_drop hm))) ?_ ?_ rfl ?_
  · show (_ + _) * 224 ≤ _
    omega
  · omega
  intro v2 h2 happ
  have hv2 := happ.room _ _ _ rfl (by omega)
  have el : i + (len - (i + 1)) = len - 1 := by omega
  rw [el] at hv2 happ
  subst hv2
  have hbox : msgsV (box.take i) ++ msgsV (box.drop (i + 1)) = msgsV (box.eraseIdx i) := by
    rw [List.eraseIdx_eq_take_drop_succ]; simp [msgsV]
  rw [hbox] at happ
  have hel : (box.eraseIdx i).length = len - 1 := by rw [List.length_eraseIdx, if_pos hi, hlen]
  have ho2 := happ.own
  rcases ho2.ok with ⟨h1, _⟩ | ⟨b', o', cap', l, he, hb, h1, h2', h3⟩
  · cases h1
  cases he
  have h1 : o + cap * 18 ≤ l.length := h1
  have h3 : (l.drop o).take ((len - 1) * 18) = msgsV (box.eraseIdx i) := h3
  have hst2 : Stp [b] h h2 := happ.stp
  clear happ hfr hbk hfo hbs
  repeat' (first | (refine St.d ?_; first | (refine dk 0 ?_; refine St.move rfl ?_) | (refine dk 1 ?_; refine St.assign rfl ?_) | (refine dk 12 ?_; first | refine St.eql rfl rfl ?_ | refine St.eql_pnil pg rfl rfl rfl rfl ?_ | refine St.eql_snil pg rfl rfl rfl rfl ?_ | refine St.beql pg rfl rfl rfl rfl ?_ | fail) | (refine dk 11 ?_; refine St.len pg rfl rfl rfl ?_)) | (refine OW.d ?_; refine dk 0 ?_; refine OW.step (gd_none rfl) rfl ?_) | (refine CW.d ?_; first | (refine dk 0 ?_; refine CW.seq ?_) | (refine dk 1 ?_; refine CW.region ?_) | (refine dk 3 ?_; first | refine CW.cond_true rfl (by (first | rfl | assumption | exact decide_eq_true (by first | assumption | omega) | exact decide_eq_false (by first | assumption | exact not_not_intro (by assumption) | omega) | fail)) ?_ | refine CW.cond_false rfl (by (first | rfl | assumption | exact decide_eq_true (by first | assumption | omega) | exact decide_eq_false (by first | assumption | exact not_not_intro (by assumption) | omega) | fail)) ?_ | (refine CW.cond_dnot rfl ?_ ?_ <;> intro _ <;> try (exfalso; omega)) | (refine CW.cond_dec rfl ?_ ?_ <;> intro _ <;> try (exfalso; omega)) | (refine CW.cond rfl ?_ ?_ <;> intro _) | fail) | (refine dk 4 ?_; refine CW.skip ?_) | (refine dk 5 ?_; refine CW.ret ?_)) | refine OW.nil ?_ | refine PK.code_normal ?_ | refine PK.lp_normal ?_ | refine PK.code_ret ?_ | refine PK.lp_ret ?_ | refine PK.nil_normal ?_ | refine PK.nil_ret ?_ | refine RW.done ?_ | refine RW.none | refine RW.alt ?_ ?_ | refine RW.step rfl (gd_none rfl) rfl ?_ | fail)
  refine St.d ?_
  refine dk 38 ?_
  refine St.sliceLH pg rfl rfl rfl rfl rfl rfl (l' := len - 1) (m' := len) rfl rfl (by omega) (by omega) ?_
  have esub : subA (some (⟨b, o, none⟩ : Addr)) 18 (len - 1) cap = some ⟨b, o + (len - 1) * 18, none⟩ := by
    unfold subA
    rw [if_neg (by omega)]
    simp [addr_add]
  have e1 : len - (len - 1) = 0 + 1 := by omega
  refine OW.step (gd_none rfl) rfl ?_
  refine St.clearS pg rfl rfl rfl (by decide) rfl (b := b) (o := o + (len - 1) * 18) (m := 0) (cap := cap - (len - 1)) (by rw [← esub, ← e1]; rfl) hb ?_ rfl ?_
  · show o + (len - 1) * 18 + (0 + 1) * 18 ≤ l.length
    have : cap * 18 ≥ len * 18 := Nat.mul_le_mul_right _ hcap
    have : (len - 1) * 18 + 18 = len * 18 := by omega
    omega
  intro h3' l' hu hsz hll hpre
  have hown : Own h3' (.slice (some ⟨b, o, none⟩) (len - 1) cap) 39 18 (len - 1) (msgsV (box.eraseIdx i)) := by
    refine ⟨ho2.len_vs, .inr ⟨b, o, cap, l', rfl, hu.blk, by rw [hll]; exact h1, h2', ?_⟩⟩
    rw [← h3]
    apply List.ext_getElem?
    intro q
    rw [List.getElem?_take, List.getElem?_take, List.getElem?_drop, List.getElem?_drop]
    split
    · exact hpre _ (by omega)
    · rfl
  have hst3 : Stp [b] h h3' := hst2.trans hu.stp
  repeat' (first | (refine St.d ?_; first | (refine dk 0 ?_; refine St.move rfl ?_) | (refine dk 1 ?_; refine St.assign rfl ?_) | (refine dk 12 ?_; first | refine St.eql rfl rfl ?_ | refine St.eql_pnil pg rfl rfl rfl rfl ?_ | refine St.eql_snil pg rfl rfl rfl rfl ?_ | refine St.beql pg rfl rfl rfl rfl ?_ | fail) | (refine dk 11 ?_; refine St.len pg rfl rfl rfl ?_)) | (refine OW.d ?_; refine dk 0 ?_; refine OW.step (gd_none rfl) rfl ?_) | (refine CW.d ?_; first | (refine dk 0 ?_; refine CW.seq ?_) | (refine dk 1 ?_; refine CW.region ?_) | (refine dk 3 ?_; first | refine CW.cond_true rfl (by (first | rfl | assumption | exact decide_eq_true (by first | assumption | omega) | exact decide_eq_false (by first | assumption | exact not_not_intro (by assumption) | omega) | fail)) ?_ | refine CW.cond_false rfl (by (first | rfl | assumption | exact decide_eq_true (by first | assumption | omega) | exact decide_eq_false (by first | assumption | exact not_not_intro (by assumption) | omega) | fail)) ?_ | (refine CW.cond_dnot rfl ?_ ?_ <;> intro _ <;> try (exfalso; omega)) | (refine CW.cond_dec rfl ?_ ?_ <;> intro _ <;> try (exfalso; omega)) | (refine CW.cond rfl ?_ ?_ <;> intro _) | fail) | (refine dk 4 ?_; refine CW.skip ?_) | (refine dk 5 ?_; refine CW.ret ?_)) | refine OW.nil ?_ | refine PK.code_normal ?_ | refine PK.lp_normal ?_ | refine PK.code_ret ?_ | refine PK.lp_ret ?_ | refine PK.nil_normal ?_ | refine PK.nil_ret ?_ | refine RW.done ?_ | refine RW.none | refine RW.alt ?_ ?_ | refine RW.step rfl (gd_none rfl) rfl ?_ | fail)
  exact ⟨_, ResOK.one rfl, ⟨by rw [hel]; exact hown⟩, hst3, rfl⟩
end Go.Proofs.Ytaopehadegknoaa
