/- The law's terms, and what Append does is determined; conditions: the lists lie in the heap. -/
import Derived.Test.YtdoefbnjehngmaaGn
namespace Go.Proofs.Ytdoefbnjehngmaa
open Go Go.CF
set_option maxRecDepth 20000

theorem first_eq {g : LogS} {m : Msg} {k k' : Nat} (h1 : ∀ j, j < k → Mat g m j) (h2 : ¬ Mat g m k) (h3 : ∀ j, j < k' → Mat g m j) (h4 : ¬ Mat g m k') : k = k' := by
  rcases Nat.lt_trichotomy k k' with h | h | h
  · exact absurd (h3 k h) h2
  · exact h
  · exact absurd (h1 k' h) h4
theorem ApR.det {g g1 g2 : LogS} {m a1 a2 : Msg} {f1 f2 c1 c2 : Int} (h1 : ApR g m g1 a1 f1 c1) (h2 : ApR g m g2 a2 f2 c2) : g1 = g2 ∧ a1 = a2 ∧ f1 = f2 ∧ c1 = c2 := by
  have off : ∀ {P : Prop}, Fits g m → ((g.ents.length : Int) < m.index ∨ termAt g.ents m.index.toNat ≠ m.logt) → P := fun h h9 => by
    have g1 := h.le
    have g2 := h.tm
    rcases h9 with h9 | h9
    · omega
    · exact absurd g2 h9
  have sk : ∀ {P : Prop} {k : Nat}, (∀ j, j < m.ents.length → Mat g m j) → k < m.ents.length → ¬ Mat g m k → P := fun h1 h2 h3 => absurd (h1 _ h2) h3
  cases h1 with
  | bad a1 =>
    cases h2 with
    | bad _ => exact ⟨rfl, rfl, rfl, rfl⟩
    | leads a2 _ => exact absurd (a2) a1
    | off a2 _ _ => exact absurd (a2) a1
    | same f2 _ => exact absurd (f2.fit) a1
    | corrupt _ f2 _ _ _ _ => exact absurd (f2.fit) a1
    | large _ f2 _ _ _ _ _ => exact absurd (f2.fit) a1
    | put _ f2 _ _ _ _ _ => exact absurd (f2.fit) a1
  | leads a1 b1 =>
    cases h2 with
    | bad a2 => exact absurd (a1) a2
    | leads _ _ => exact ⟨rfl, rfl, rfl, rfl⟩
    | off _ b2 _ => exact absurd (b2) (by omega)
    | same f2 _ => exact absurd (f2.ld) (by omega)
    | corrupt _ f2 _ _ _ e12 => exact absurd (f2.ld) (by omega)
    | large _ f2 _ _ _ e12 e22 => exact absurd (f2.ld) (by omega)
    | put _ f2 _ _ _ e12 e22 => exact absurd (f2.ld) (by omega)
  | off a1 b1 c1 =>
    cases h2 with
    | bad a2 => exact absurd (a1) a2
    | leads _ b2 => exact absurd (b1) (by omega)
    | off _ _ _ => exact ⟨rfl, rfl, rfl, rfl⟩
    | same f2 _ => exact off f2 c1
    | corrupt _ f2 _ _ _ _ => exact off f2 c1
    | large _ f2 _ _ _ _ _ => exact off f2 c1
    | put _ f2 _ _ _ _ _ => exact off f2 c1
  | same f1 all1 =>
    cases h2 with
    | bad a2 => exact absurd (f1.fit) a2
    | leads _ b2 => exact absurd (f1.ld) (by omega)
    | off _ _ c2 => exact off f1 c2
    | same _ _ => exact ⟨rfl, rfl, rfl, rfl⟩
    | corrupt _ _ lt2 _ no2 _ => exact sk all1 lt2 no2
    | large _ _ lt2 _ no2 _ _ => exact sk all1 lt2 no2
    | put _ _ lt2 _ no2 _ _ => exact sk all1 lt2 no2
  | corrupt k1 f1 lt1 all1 no1 e11 =>
    cases h2 with
    | bad a2 => exact absurd (f1.fit) a2
    | leads _ b2 => exact absurd (f1.ld) (by omega)
    | off _ _ c2 => exact off f1 c2
    | same _ all2 => exact sk all2 lt1 no1
    | corrupt _ _ _ all2 no2 e12 => obtain rfl := first_eq all1 no1 all2 no2; first | exact ⟨rfl, rfl, rfl, rfl⟩ | (exfalso; omega)
    | large _ _ _ all2 no2 e12 e22 => obtain rfl := first_eq all1 no1 all2 no2; first | exact ⟨rfl, rfl, rfl, rfl⟩ | (exfalso; omega)
    | put _ _ _ all2 no2 e12 e22 => obtain rfl := first_eq all1 no1 all2 no2; first | exact ⟨rfl, rfl, rfl, rfl⟩ | (exfalso; omega)
  | large k1 f1 lt1 all1 no1 e11 e21 =>
    cases h2 with
    | bad a2 => exact absurd (f1.fit) a2
    | leads _ b2 => exact absurd (f1.ld) (by omega)
    | off _ _ c2 => exact off f1 c2
    | same _ all2 => exact sk all2 lt1 no1
    | corrupt _ _ _ all2 no2 e12 => obtain rfl := first_eq all1 no1 all2 no2; first | exact ⟨rfl, rfl, rfl, rfl⟩ | (exfalso; omega)
    | large _ _ _ all2 no2 e12 e22 => obtain rfl := first_eq all1 no1 all2 no2; first | exact ⟨rfl, rfl, rfl, rfl⟩ | (exfalso; omega)
    | put _ _ _ all2 no2 e12 e22 => obtain rfl := first_eq all1 no1 all2 no2; first | exact ⟨rfl, rfl, rfl, rfl⟩ | (exfalso; omega)
  | put k1 f1 lt1 all1 no1 e11 e21 =>
    cases h2 with
    | bad a2 => exact absurd (f1.fit) a2
    | leads _ b2 => exact absurd (f1.ld) (by omega)
    | off _ _ c2 => exact off f1 c2
    | same _ all2 => exact sk all2 lt1 no1
    | corrupt _ _ _ all2 no2 e12 => obtain rfl := first_eq all1 no1 all2 no2; first | exact ⟨rfl, rfl, rfl, rfl⟩ | (exfalso; omega)
    | large _ _ _ all2 no2 e12 e22 => obtain rfl := first_eq all1 no1 all2 no2; first | exact ⟨rfl, rfl, rfl, rfl⟩ | (exfalso; omega)
    | put _ _ _ all2 no2 e12 e22 => obtain rfl := first_eq all1 no1 all2 no2; first | exact ⟨rfl, rfl, rfl, rfl⟩ | (exfalso; omega)

def tmE (x : Int × Nat) : Ent := ⟨x.1, 1, 0, x.2 + 1, 0, []⟩
def termsL (l : List Int) : List Ent := l.zipIdx.map tmE
theorem termsL_snoc {l : List Int} {i : Nat} {x : Int} (h : l[i]? = some x) : termsL (l.take (i + 1)) = termsL (l.take i) ++ [tmE (x, i)] := by
  have hi := (List.getElem?_eq_some_iff.1 h).1
  rw [List.take_add_one, h]
  simp only [termsL, Option.toList, List.zipIdx_append, List.map_append, List.length_take, List.zipIdx_cons, List.zipIdx_nil, List.map_cons, List.map_nil]
  rw [Nat.min_eq_left (by omega), Nat.zero_add]
theorem termsL_len {l : List Int} : (termsL l).length = l.length := by simp [termsL]
set_option maxHeartbeats 1000000 in
theorem terms_any {h : Heap} {v : Value} {l : List Int} (k : CkV h v l) (hl : l.length ≤ 100) :
    CallsH Try.prog 28 #[v] h fun r h' => OwnE h' (fun b => h.size ≤ b ∧ b < h'.size ∧ b ∉ blkOf r) r (termsL l) ∧ Stp [] h h' ∧ ∀ b ∈ blkOf r, h.size ≤ b := by
  obtain ⟨p, cap, rfl⟩ := k.s.sl.shape
  refine CallsH.of (l := [_]) Try.func28 rfl Try.ntmps28 Try.results28 rfl ?_
  repeat' (first | (refine St.d ?_; first | (refine dk 0 ?_; refine St.move rfl ?_) | (refine dk 2 ?_; first | refine St.load pg rfl rfl rfl (by (first | assumption | exact Blk.cel (by (repeat (first | assumption | exact New.blk (by assumption) | exact Upd.blk (by assumption) | (apply New.old; assumption) | (apply Upd.keep; assumption; (focus (first | assumption | exact Ne.symm (by assumption) | omega | (intro hne; simp only at hne; omega)))) | (apply Stp.blk0; assumption) | (apply Stp.blk1; assumption; (focus (first | assumption | exact Ne.symm (by assumption) | omega | (intro hne; simp only at hne; omega))))))) (by rfl) | exact Cels.fld (by assumption) (by rfl) | exact Cels.fld0 (by assumption) (by rfl) | (repeat (first | assumption | (apply New.oldc; assumption) | (apply Upd.keepc; assumption; (focus (first | assumption | exact Ne.symm (by assumption) | omega | (intro hne; simp only at hne; omega)))) | (apply Stp.cel0; assumption))))) (by first | exact List.not_mem_nil | assumption) rfl ?_ | refine St.loadS pg rfl rfl rfl (by first | assumption | exact Blk.cels0 (by (repeat (first | assumption | exact New.blk (by assumption) | exact Upd.blk (by assumption) | (apply New.old; assumption) | (apply Upd.keep; assumption; (focus (first | assumption | exact Ne.symm (by assumption) | omega | (intro hne; simp only at hne; omega)))) | (apply Stp.blk0; assumption) | (apply Stp.blk1; assumption; (focus (first | assumption | exact Ne.symm (by assumption) | omega | (intro hne; simp only at hne; omega))))))) | (repeat (first | assumption | (apply Cels.newc; assumption) | (apply Cels.stpc; assumption) | (apply Cels.updc; assumption; (focus (first | assumption | exact Ne.symm (by assumption) | omega | (intro hne; simp only at hne; omega))))))) (by first | exact List.not_mem_nil | assumption) rfl rfl ?_ | fail) | (refine dk 1 ?_; refine St.assign rfl ?_) | (refine dk 14 ?_; refine St.lss rfl rfl ?_) | (refine dk 18 ?_; refine St.add rfl rfl (by omega) ?_) | (refine dk 10 ?_; first | refine St.indexAddr1 pg rfl rfl rfl rfl rfl rfl rfl (by first | omega | decide | exact Nat.succ_pos _ | (show 0 < _; omega)) ?_ | refine St.indexAddr pg rfl rfl rfl rfl rfl rfl (by first | omega | decide | exact Nat.succ_pos _ | (show 0 < _; omega)) ?_ | refine St.indexAddrA1 pg rfl rfl rfl rfl rfl rfl rfl (by first | omega | decide) ?_ | refine St.indexAddrA pg rfl rfl rfl rfl rfl rfl (by first | omega | decide) ?_ | fail) | (refine dk 11 ?_; refine St.len pg rfl rfl rfl ?_) | (refine dk 28 ?_; refine St.build pg rfl rfl rfl rfl rfl (by (repeat (first | exact Fill.nil | (apply Fill.one; rfl; rfl; (focus (first | exact SetL.set (by assumption) | (repeat (first | exact SetL.z | apply SetL.s))))) | (apply Fill.agg; rfl; rfl; (focus (repeat (first | exact SetR.z | (apply SetR.c; (focus (first | exact SetL.set (by assumption) | (repeat (first | exact SetL.z | apply SetL.s)))))))))))) ?_) | (refine dk 29 ?_; refine St.buildSlice pg rfl rfl rfl rfl rfl rfl rfl (by (repeat (first | exact Fill.nil | (apply Fill.one; rfl; rfl; (focus (first | exact SetL.set (by assumption) | (repeat (first | exact SetL.z | apply SetL.s))))) | (apply Fill.agg; rfl; rfl; (focus (repeat (first | exact SetR.z | (apply SetR.c; (focus (first | exact SetL.set (by assumption) | (repeat (first | exact SetL.z | apply SetL.s)))))))))))) rfl ?_; intro _ _ _ _ _)) | (refine OW.d ?_; refine dk 0 ?_; refine OW.step (gd_none rfl) rfl ?_) | (refine CW.d ?_; first | (refine dk 0 ?_; refine CW.seq ?_) | (refine dk 1 ?_; refine CW.region ?_) | (refine dk 3 ?_; first | refine CW.cond_true rfl (by (first | rfl | assumption | exact decide_eq_true (by first | assumption | omega) | exact decide_eq_false (by first | assumption | exact not_not_intro (by assumption) | omega) | fail)) ?_ | refine CW.cond_false rfl (by (first | rfl | assumption | exact decide_eq_true (by first | assumption | omega) | exact decide_eq_false (by first | assumption | exact not_not_intro (by assumption) | omega) | fail)) ?_ | (refine CW.cond_dnot rfl ?_ ?_ <;> intro _ <;> try (exfalso; omega)) | (refine CW.cond_dec rfl ?_ ?_ <;> intro _ <;> try (exfalso; omega)) | (refine CW.cond rfl ?_ ?_ <;> intro _) | fail) | (refine dk 4 ?_; refine CW.skip ?_) | (refine dk 5 ?_; refine CW.ret ?_) | (refine dk 6 ?_; refine CW.exit ?_) | (refine dk 7 ?_; refine CW.block ?_)) | refine OW.nil ?_ | refine PK.code_normal ?_ | refine PK.blk_normal ?_ | refine PK.lp_normal ?_ | refine PK.code_ret ?_ | refine PK.blk_ret ?_ | refine PK.lp_ret ?_ | refine PK.code_exit ?_ | refine PK.lp_exit ?_ | refine PK.blk_exit ?_ | refine PK.blk_exit_ne rfl ?_ | refine PK.nil_normal ?_ | refine PK.nil_ret ?_ | fail | fail)
  refine CW.loop (fun x : Nat × Value => [(3, x.2), (6, .slice p l.length cap), (7, .int .i64 l.length), (8, .int .i64 x.1)])
    (fun x h1 => x.1 ≤ l.length ∧ Stp [] h h1 ∧ (∀ b ∈ blkOf x.2, h.size ≤ b) ∧ OwnE h1 (fun b => h.size ≤ b ∧ b < h1.size ∧ b ∉ blkOf x.2) x.2 (termsL (l.take x.1)))
    (fun x => l.length - x.1) (0, .slice none 0 0) (by (repeat (first | exact trivial | refine ⟨rfl, ?_⟩))) ⟨Nat.zero_le _, Stp.refl _, by simp [blkOf], by simp only [List.take_zero]; exact OwnR.nil⟩ ?_
  rintro ⟨j, ov⟩ h1 ⟨hj, s1, hnew, ho⟩
  simp only at hj hnew ho
  by_cases hjn : j < l.length
  · obtain ⟨x, hx⟩ : ∃ x, l[j]? = some x := ⟨_, List.getElem?_eq_getElem hjn⟩
    have hxr := k.r x (List.mem_of_getElem? hx)
    rcases k.s.cases with h2 | ⟨b, o, cap', h3, _, _⟩
    · subst h2; simp at hjn
    simp only [Value.slice.injEq] at h3
    obtain ⟨rfl, _, rfl⟩ := h3
    have hc := (k.grow s1).s.cel hx
    have hlen : (termsL (l.take j)).length = j := by rw [termsL_len]; simp; omega
    repeat' (first | (refine St.d ?_; first | (refine dk 0 ?_; refine St.move rfl ?_) | (refine dk 2 ?_; first | refine St.load pg rfl rfl rfl (by (first | assumption | exact Blk.cel (by (repeat (first | assumption | exact New.blk (by assumption) | exact Upd.blk (by assumption) | (apply New.old; assumption) | (apply Upd.keep; assumption; (focus (first | assumption | exact Ne.symm (by assumption) | omega | (intro hne; simp only at hne; omega)))) | (apply Stp.blk0; assumption) | (apply Stp.blk1; assumption; (focus (first | assumption | exact Ne.symm (by assumption) | omega | (intro hne; simp only at hne; omega))))))) (by rfl) | exact Cels.fld (by assumption) (by rfl) | exact Cels.fld0 (by assumption) (by rfl) | (repeat (first | assumption | (apply New.oldc; assumption) | (apply Upd.keepc; assumption; (focus (first | assumption | exact Ne.symm (by assumption) | omega | (intro hne; simp only at hne; omega)))) | (apply Stp.cel0; assumption))))) (by first | exact List.not_mem_nil | assumption) rfl ?_ | refine St.loadS pg rfl rfl rfl (by first | assumption | exact Blk.cels0 (by (repeat (first | assumption | exact New.blk (by assumption) | exact Upd.blk (by assumption) | (apply New.old; assumption) | (apply Upd.keep; assumption; (focus (first | assumption | exact Ne.symm (by assumption) | omega | (intro hne; simp only at hne; omega)))) | (apply Stp.blk0; assumption) | (apply Stp.blk1; assumption; (focus (first | assumption | exact Ne.symm (by assumption) | omega | (intro hne; simp only at hne; omega))))))) | (repeat (first | assumption | (apply Cels.newc; assumption) | (apply Cels.stpc; assumption) | (apply Cels.updc; assumption; (focus (first | assumption | exact Ne.symm (by assumption) | omega | (intro hne; simp only at hne; omega))))))) (by first | exact List.not_mem_nil | assumption) rfl rfl ?_ | fail) | (refine dk 1 ?_; refine St.assign rfl ?_) | (refine dk 14 ?_; refine St.lss rfl rfl ?_) | (refine dk 18 ?_; refine St.add rfl rfl (by omega) ?_) | (refine dk 10 ?_; first | refine St.indexAddr1 pg rfl rfl rfl rfl rfl rfl rfl (by first | omega | decide | exact Nat.succ_pos _ | (show 0 < _; omega)) ?_ | refine St.indexAddr pg rfl rfl rfl rfl rfl rfl (by first | omega | decide | exact Nat.succ_pos _ | (show 0 < _; omega)) ?_ | refine St.indexAddrA1 pg rfl rfl rfl rfl rfl rfl rfl (by first | omega | decide) ?_ | refine St.indexAddrA pg rfl rfl rfl rfl rfl rfl (by first | omega | decide) ?_ | fail) | (refine dk 11 ?_; refine St.len pg rfl rfl rfl ?_) | (refine dk 28 ?_; refine St.build pg rfl rfl rfl rfl rfl (by (repeat (first | exact Fill.nil | (apply Fill.one; rfl; rfl; (focus (first | exact SetL.set (by assumption) | (repeat (first | exact SetL.z | apply SetL.s))))) | (apply Fill.agg; rfl; rfl; (focus (repeat (first | exact SetR.z | (apply SetR.c; (focus (first | exact SetL.set (by assumption) | (repeat (first | exact SetL.z | apply SetL.s)))))))))))) ?_) | (refine dk 29 ?_; refine St.buildSlice pg rfl rfl rfl rfl rfl rfl rfl (by (repeat (first | exact Fill.nil | (apply Fill.one; rfl; rfl; (focus (first | exact SetL.set (by assumption) | (repeat (first | exact SetL.z | apply SetL.s))))) | (apply Fill.agg; rfl; rfl; (focus (repeat (first | exact SetR.z | (apply SetR.c; (focus (first | exact SetL.set (by assumption) | (repeat (first | exact SetL.z | apply SetL.s)))))))))))) rfl ?_; intro _ _ _ _ _)) | (refine OW.d ?_; refine dk 0 ?_; refine OW.step (gd_none rfl) rfl ?_) | (refine CW.d ?_; first | (refine dk 0 ?_; refine CW.seq ?_) | (refine dk 1 ?_; refine CW.region ?_) | (refine dk 3 ?_; first | refine CW.cond_true rfl (by (first | rfl | assumption | exact decide_eq_true (by first | assumption | omega) | exact decide_eq_false (by first | assumption | exact not_not_intro (by assumption) | omega) | fail)) ?_ | refine CW.cond_false rfl (by (first | rfl | assumption | exact decide_eq_true (by first | assumption | omega) | exact decide_eq_false (by first | assumption | exact not_not_intro (by assumption) | omega) | fail)) ?_ | (refine CW.cond_dnot rfl ?_ ?_ <;> intro _ <;> try (exfalso; omega)) | (refine CW.cond_dec rfl ?_ ?_ <;> intro _ <;> try (exfalso; omega)) | (refine CW.cond rfl ?_ ?_ <;> intro _) | fail) | (refine dk 4 ?_; refine CW.skip ?_) | (refine dk 5 ?_; refine CW.ret ?_) | (refine dk 6 ?_; refine CW.exit ?_) | (refine dk 7 ?_; refine CW.block ?_)) | refine OW.nil ?_ | refine PK.code_normal ?_ | refine PK.blk_normal ?_ | refine PK.lp_normal ?_ | refine PK.code_ret ?_ | refine PK.blk_ret ?_ | refine PK.lp_ret ?_ | refine PK.code_exit ?_ | refine PK.lp_exit ?_ | refine PK.blk_exit ?_ | refine PK.blk_exit_ne rfl ?_ | refine PK.nil_normal ?_ | refine PK.nil_ret ?_ | fail | fail)
    rename_i nb h2 hn2 e2 z2
    have s2 : Stp [] h1 h2 := hn2.stp
    have zz1 := s1.size
    have hB : Blk h2 nb 39 (entV (tmE (x, j)) (.slice none 0 0)) := hn2.blk
    have hltx := ho.blk
    refine St.d ?_
    refine dk 25 ?_
    refine St.appendR (r := Rp.ent) (F2 := fun b => b = nb) (m := [tmE (x, j)]) pg rfl rfl rfl rfl rfl rfl rfl (ho.grow s2) (sliceR_one hB (entRm (e := tmE (x, j)) ⟨⟨Sl.nil⟩, by simp [tmE], by simp [tmE]⟩ (by simp [rdOf]) ⟨hxr, by simp [tmE, rng], by simp [tmE, rng], by simp [tmE, rng]; omega, by simp [tmE, rng]⟩) rfl) (fun b hb1 hf => ?_) ?_ ?_ rfl ?_
    · have := hltx b hb1; omega
    · rw [hlen]; show (_ + 1) * 64 ≤ _
      omega
    · rw [hlen]; simp; omega
    intro av h3 s3 hav hab
    have zz3 := s3.size
    have halt := hav.blk
    have hnew3 : ∀ b ∈ blkOf av, h.size ≤ b := fun b hb => by
      rcases hab with h8 | h8
      · rw [h8] at hb; exact hnew b hb
      · have := h8 b hb; omega
    repeat' (first | (refine St.d ?_; first | (refine dk 0 ?_; refine St.move rfl ?_) | (refine dk 2 ?_; first | refine St.load pg rfl rfl rfl (by (first | assumption | exact Blk.cel (by (repeat (first | assumption | exact New.blk (by assumption) | exact Upd.blk (by assumption) | (apply New.old; assumption) | (apply Upd.keep; assumption; (focus (first | assumption | exact Ne.symm (by assumption) | omega | (intro hne; simp only at hne; omega)))) | (apply Stp.blk0; assumption) | (apply Stp.blk1; assumption; (focus (first | assumption | exact Ne.symm (by assumption) | omega | (intro hne; simp only at hne; omega))))))) (by rfl) | exact Cels.fld (by assumption) (by rfl) | exact Cels.fld0 (by assumption) (by rfl) | (repeat (first | assumption | (apply New.oldc; assumption) | (apply Upd.keepc; assumption; (focus (first | assumption | exact Ne.symm (by assumption) | omega | (intro hne; simp only at hne; omega)))) | (apply Stp.cel0; assumption))))) (by first | exact List.not_mem_nil | assumption) rfl ?_ | refine St.loadS pg rfl rfl rfl (by first | assumption | exact Blk.cels0 (by (repeat (first | assumption | exact New.blk (by assumption) | exact Upd.blk (by assumption) | (apply New.old; assumption) | (apply Upd.keep; assumption; (focus (first | assumption | exact Ne.symm (by assumption) | omega | (intro hne; simp only at hne; omega)))) | (apply Stp.blk0; assumption) | (apply Stp.blk1; assumption; (focus (first | assumption | exact Ne.symm (by assumption) | omega | (intro hne; simp only at hne; omega))))))) | (repeat (first | assumption | (apply Cels.newc; assumption) | (apply Cels.stpc; assumption) | (apply Cels.updc; assumption; (focus (first | assumption | exact Ne.symm (by assumption) | omega | (intro hne; simp only at hne; omega))))))) (by first | exact List.not_mem_nil | assumption) rfl rfl ?_ | fail) | (refine dk 1 ?_; refine St.assign rfl ?_) | (refine dk 14 ?_; refine St.lss rfl rfl ?_) | (refine dk 18 ?_; refine St.add rfl rfl (by omega) ?_) | (refine dk 10 ?_; first | refine St.indexAddr1 pg rfl rfl rfl rfl rfl rfl rfl (by first | omega | decide | exact Nat.succ_pos _ | (show 0 < _; omega)) ?_ | refine St.indexAddr pg rfl rfl rfl rfl rfl rfl (by first | omega | decide | exact Nat.succ_pos _ | (show 0 < _; omega)) ?_ | refine St.indexAddrA1 pg rfl rfl rfl rfl rfl rfl rfl (by first | omega | decide) ?_ | refine St.indexAddrA pg rfl rfl rfl rfl rfl rfl (by first | omega | decide) ?_ | fail) | (refine dk 11 ?_; refine St.len pg rfl rfl rfl ?_) | (refine dk 28 ?_; refine St.build pg rfl rfl rfl rfl rfl (by (repeat (first | exact Fill.nil | (apply Fill.one; rfl; rfl; (focus (first | exact SetL.set (by assumption) | (repeat (first | exact SetL.z | apply SetL.s))))) | (apply Fill.agg; rfl; rfl; (focus (repeat (first | exact SetR.z | (apply SetR.c; (focus (first | exact SetL.set (by assumption) | (repeat (first | exact SetL.z | apply SetL.s)))))))))))) ?_) | (refine dk 29 ?_; refine St.buildSlice pg rfl rfl rfl rfl rfl rfl rfl (by (repeat (first | exact Fill.nil | (apply Fill.one; rfl; rfl; (focus (first | exact SetL.set (by assumption) | (repeat (first | exact SetL.z | apply SetL.s))))) | (apply Fill.agg; rfl; rfl; (focus (repeat (first | exact SetR.z | (apply SetR.c; (focus (first | exact SetL.set (by assumption) | (repeat (first | exact SetL.z | apply SetL.s)))))))))))) rfl ?_; intro _ _ _ _ _)) | (refine OW.d ?_; refine dk 0 ?_; refine OW.step (gd_none rfl) rfl ?_) | (refine CW.d ?_; first | (refine dk 0 ?_; refine CW.seq ?_) | (refine dk 1 ?_; refine CW.region ?_) | (refine dk 3 ?_; first | refine CW.cond_true rfl (by (first | rfl | assumption | exact decide_eq_true (by first | assumption | omega) | exact decide_eq_false (by first | assumption | exact not_not_intro (by assumption) | omega) | fail)) ?_ | refine CW.cond_false rfl (by (first | rfl | assumption | exact decide_eq_true (by first | assumption | omega) | exact decide_eq_false (by first | assumption | exact not_not_intro (by assumption) | omega) | fail)) ?_ | (refine CW.cond_dnot rfl ?_ ?_ <;> intro _ <;> try (exfalso; omega)) | (refine CW.cond_dec rfl ?_ ?_ <;> intro _ <;> try (exfalso; omega)) | (refine CW.cond rfl ?_ ?_ <;> intro _) | fail) | (refine dk 4 ?_; refine CW.skip ?_) | (refine dk 5 ?_; refine CW.ret ?_) | (refine dk 6 ?_; refine CW.exit ?_) | (refine dk 7 ?_; refine CW.block ?_)) | refine OW.nil ?_ | refine PK.code_normal ?_ | refine PK.blk_normal ?_ | refine PK.lp_normal ?_ | refine PK.code_ret ?_ | refine PK.blk_ret ?_ | refine PK.lp_ret ?_ | refine PK.code_exit ?_ | refine PK.lp_exit ?_ | refine PK.blk_exit ?_ | refine PK.blk_exit_ne rfl ?_ | refine PK.nil_normal ?_ | refine PK.nil_ret ?_ | fail | fail)
    refine ⟨(j + 1, av), by (repeat (first | exact trivial | refine ⟨rfl, ?_⟩)), ⟨hjn, Stp.stp s3 (s1.trans s2) (fun b hb => .inr (hnew b hb)), hnew3, ?_⟩, by simp only; omega⟩
    simp only
    rw [termsL_snoc hx]
    refine OwnR.mono (fun b hb => ?_) (fun b hm hf => hf.2.2 hm) hav
    refine ⟨?_, by omega, fun hm => hav.apart b hm hb⟩
    rcases hb.1 with h9 | h9
    · exact h9.1
    · omega
  · have : j = l.length := by omega
    subst this
    repeat' (first | (refine St.d ?_; first | (refine dk 0 ?_; refine St.move rfl ?_) | (refine dk 2 ?_; first | refine St.load pg rfl rfl rfl (by (first | assumption | exact Blk.cel (by (repeat (first | assumption | exact New.blk (by assumption) | exact Upd.blk (by assumption) | (apply New.old; assumption) | (apply Upd.keep; assumption; (focus (first | assumption | exact Ne.symm (by assumption) | omega | (intro hne; simp only at hne; omega)))) | (apply Stp.blk0; assumption) | (apply Stp.blk1; assumption; (focus (first | assumption | exact Ne.symm (by assumption) | omega | (intro hne; simp only at hne; omega))))))) (by rfl) | exact Cels.fld (by assumption) (by rfl) | exact Cels.fld0 (by assumption) (by rfl) | (repeat (first | assumption | (apply New.oldc; assumption) | (apply Upd.keepc; assumption; (focus (first | assumption | exact Ne.symm (by assumption) | omega | (intro hne; simp only at hne; omega)))) | (apply Stp.cel0; assumption))))) (by first | exact List.not_mem_nil | assumption) rfl ?_ | refine St.loadS pg rfl rfl rfl (by first | assumption | exact Blk.cels0 (by (repeat (first | assumption | exact New.blk (by assumption) | exact Upd.blk (by assumption) | (apply New.old; assumption) | (apply Upd.keep; assumption; (focus (first | assumption | exact Ne.symm (by assumption) | omega | (intro hne; simp only at hne; omega)))) | (apply Stp.blk0; assumption) | (apply Stp.blk1; assumption; (focus (first | assumption | exact Ne.symm (by assumption) | omega | (intro hne; simp only at hne; omega))))))) | (repeat (first | assumption | (apply Cels.newc; assumption) | (apply Cels.stpc; assumption) | (apply Cels.updc; assumption; (focus (first | assumption | exact Ne.symm (by assumption) | omega | (intro hne; simp only at hne; omega))))))) (by first | exact List.not_mem_nil | assumption) rfl rfl ?_ | fail) | (refine dk 1 ?_; refine St.assign rfl ?_) | (refine dk 14 ?_; refine St.lss rfl rfl ?_) | (refine dk 18 ?_; refine St.add rfl rfl (by omega) ?_) | (refine dk 10 ?_; first | refine St.indexAddr1 pg rfl rfl rfl rfl rfl rfl rfl (by first | omega | decide | exact Nat.succ_pos _ | (show 0 < _; omega)) ?_ | refine St.indexAddr pg rfl rfl rfl rfl rfl rfl (by first | omega | decide | exact Nat.succ_pos _ | (show 0 < _; omega)) ?_ | refine St.indexAddrA1 pg rfl rfl rfl rfl rfl rfl rfl (by first | omega | decide) ?_ | refine St.indexAddrA pg rfl rfl rfl rfl rfl rfl (by first | omega | decide) ?_ | fail) | (refine dk 11 ?_; refine St.len pg rfl rfl rfl ?_) | (refine dk 28 ?_; refine St.build pg rfl rfl rfl rfl rfl (by (repeat (first | exact Fill.nil | (apply Fill.one; rfl; rfl; (focus (first | exact SetL.set (by assumption) | (repeat (first | exact SetL.z | apply SetL.s))))) | (apply Fill.agg; rfl; rfl; (focus (repeat (first | exact SetR.z | (apply SetR.c; (focus (first | exact SetL.set (by assumption) | (repeat (first | exact SetL.z | apply SetL.s)))))))))))) ?_) | (refine dk 29 ?_; refine St.buildSlice pg rfl rfl rfl rfl rfl rfl rfl (by (repeat (first | exact Fill.nil | (apply Fill.one; rfl; rfl; (focus (first | exact SetL.set (by assumption) | (repeat (first | exact SetL.z | apply SetL.s))))) | (apply Fill.agg; rfl; rfl; (focus (repeat (first | exact SetR.z | (apply SetR.c; (focus (first | exact SetL.set (by assumption) | (repeat (first | exact SetL.z | apply SetL.s)))))))))))) rfl ?_; intro _ _ _ _ _)) | (refine OW.d ?_; refine dk 0 ?_; refine OW.step (gd_none rfl) rfl ?_) | (refine CW.d ?_; first | (refine dk 0 ?_; refine CW.seq ?_) | (refine dk 1 ?_; refine CW.region ?_) | (refine dk 3 ?_; first | refine CW.cond_true rfl (by (first | rfl | assumption | exact decide_eq_true (by first | assumption | omega) | exact decide_eq_false (by first | assumption | exact not_not_intro (by assumption) | omega) | fail)) ?_ | refine CW.cond_false rfl (by (first | rfl | assumption | exact decide_eq_true (by first | assumption | omega) | exact decide_eq_false (by first | assumption | exact not_not_intro (by assumption) | omega) | fail)) ?_ | (refine CW.cond_dnot rfl ?_ ?_ <;> intro _ <;> try (exfalso; omega)) | (refine CW.cond_dec rfl ?_ ?_ <;> intro _ <;> try (exfalso; omega)) | (refine CW.cond rfl ?_ ?_ <;> intro _) | fail) | (refine dk 4 ?_; refine CW.skip ?_) | (refine dk 5 ?_; refine CW.ret ?_) | (refine dk 6 ?_; refine CW.exit ?_) | (refine dk 7 ?_; refine CW.block ?_)) | refine OW.nil ?_ | refine PK.code_normal ?_ | refine PK.blk_normal ?_ | refine PK.lp_normal ?_ | refine PK.code_ret ?_ | refine PK.blk_ret ?_ | refine PK.lp_ret ?_ | refine PK.code_exit ?_ | refine PK.lp_exit ?_ | refine PK.blk_exit ?_ | refine PK.blk_exit_ne rfl ?_ | refine PK.nil_normal ?_ | refine PK.nil_ret ?_ | fail | fail)
    rw [List.take_length] at ho
    exact ⟨_, ResOK.one rfl, ho, s1, hnew⟩
end Go.Proofs.Ytdoefbnjehngmaa
