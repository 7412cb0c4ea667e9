/- Copies of entries whose lists may be written; conditions: the lists lie in the heap. -/
import Derived.Test.YtdoefbnjehngmaaGf
import Derived.Test.YtdoefbnjehngmaaGj
namespace Go.Proofs.Ytdoefbnjehngmaa
open Go Go.CF
set_option maxRecDepth 20000

/-- An entry whose list lies in a block of integers. -/
def Rp.entO : Rp Ent where
  sz := 6
  R := fun h F cs e => ∃ w, cs = entV e w ∧ CkV h w e.vot ∧ (∀ b ∈ rdOf w, F b ∧ ∃ L, Blk h b 3 L) ∧ e.rg
  len := by rintro _ _ _ _ ⟨w, rfl, _⟩; rfl
  one := by
    rintro _ _ _ _ ⟨w, rfl, hk, _⟩ u hu
    obtain ⟨p, cap, rfl⟩ := hk.s.sl.shape
    simp only [entV, List.mem_cons, List.not_mem_nil, or_false] at hu
    rcases hu with rfl | rfl | rfl | rfl | rfl | rfl <;> rfl
  stp := fun x hn ⟨w, e, hk, hF, hg⟩ => ⟨w, e, hk.stp x (fun b hb => hn b (hF b hb).1), fun b hb => ⟨(hF b hb).1, by obtain ⟨L, hL⟩ := (hF b hb).2; exact ⟨L, x.blk hL (hn b (hF b hb).1)⟩⟩, hg⟩
  mono := fun hm ⟨w, e, hk, hF, hg⟩ => ⟨w, e, hk, fun b hb => ⟨hm b (hF b hb).1, (hF b hb).2⟩, hg⟩
  lt := fun ⟨w, e, hk, hF, hg⟩ => ⟨w, e, hk, fun b hb => ⟨⟨(hF b hb).1, by obtain ⟨L, hL⟩ := (hF b hb).2; exact hL.lt⟩, (hF b hb).2⟩, hg⟩
theorem Rp.entO_ent {h : Heap} {F : Nat → Prop} {cs : List Value} {e : Ent} (hr : Rp.entO.R h F cs e) : Rp.ent.R h F cs e := by
  obtain ⟨w, rfl, hk, hF, hg⟩ := hr
  exact entRm hk (fun b hb => (hF b hb).1) hg
abbrev OwnO (h : Heap) (F : Nat → Prop) (v : Value) (l : List Ent) : Prop := OwnR Rp.entO h F 39 v l
theorem OwnO.ent {h : Heap} {F : Nat → Prop} {v : Value} {l : List Ent} (o : OwnO h F v l) : OwnE h F v l := by
  obtain ⟨rows, h1, h2⟩ := o.ok
  exact ⟨⟨rows, h1, h2.1, fun i row a hi ha => Rp.entO_ent (h2.2 i row a hi ha)⟩, o.apart⟩
/-- Entries that bear a mark: what is marked may be written, and reads only what lies in K. -/
def Rp.tagO (K : Nat → Prop) : Rp (Bool × Ent) where
  sz := 6
  R := fun h F cs x => Rp.ent.R h F cs x.2 ∧ (x.1 = true → Rp.entO.R h (fun b => F b ∧ K b) cs x.2)
  len := fun h => Rp.ent.len h.1
  one := fun h => Rp.ent.one h.1
  stp := fun x hn h => ⟨Rp.ent.stp x hn h.1, fun hx => Rp.entO.stp x (fun b hb => hn b hb.1) (h.2 hx)⟩
  mono := fun hm h => ⟨Rp.ent.mono hm h.1, fun hx => Rp.entO.mono (fun b hb => ⟨hm b hb.1, hb.2⟩) (h.2 hx)⟩
  lt := fun h => ⟨Rp.ent.lt h.1, fun hx => Rp.entO.mono (fun _ hb => ⟨⟨hb.1.1, hb.2⟩, hb.1.2⟩) (Rp.entO.lt (h.2 hx))⟩
section
variable {h : Heap} {F K : Nat → Prop} {v : Value} {l : List Ent}
theorem tagO_of (o : OwnE h F v l) : OwnR (Rp.tagO K) h F 39 v (tagL 0 l) := by
  obtain ⟨rows, h1, h2⟩ := o.ok
  refine ⟨⟨rows, by rw [tagL_len]; exact h1, by rw [tagL_len]; exact h2.1, fun i row a hi ha => ?_⟩, o.apart⟩
  rw [tagL_get] at ha
  obtain ⟨e, he, rfl⟩ := Option.map_eq_some_iff.1 ha
  exact ⟨h2.2 i row e hi he, fun hx => by simp at hx⟩
theorem tagO_to {j : Nat} (o : OwnR (Rp.tagO K) h F 39 v (tagL j l)) (hj : l.length ≤ j) : OwnO h (fun b => F b ∧ K b) v l := by
  obtain ⟨rows, h1, h2⟩ := o.ok
  refine ⟨⟨rows, by rw [tagL_len] at h1; exact h1, by have := h2.1; rw [tagL_len] at this; exact this, fun i row a hi ha => ?_⟩, fun b hb hf => o.apart b hb hf.1⟩
  have hil := (List.getElem?_eq_some_iff.1 ha).1
  exact (h2.2 i row (decide (i < j), a) hi (by rw [tagL_get, ha]; rfl)).2 (decide_eq_true (by omega))
end
set_option maxHeartbeats 1000000 in
theorem clone_entsO {h : Heap} {F : Nat → Prop} {v : Value} {l : List Ent} (hs : ents.R h F [v] l) (hl : l.length ≤ 100000) (hv : ∀ e ∈ l, e.vot.length ≤ 100000) :
    CallsH Try.prog 30 #[v] h fun r h' => OwnO h' (fun b => h.size ≤ b ∧ b < h'.size ∧ b ∉ blkOf r) r l ∧ Stp [] h h' ∧ ∀ b ∈ blkOf r, h.size ≤ b := by
  obtain ⟨p, cap, e0⟩ := sliceR_shape hs
  simp only [List.cons.injEq, and_true] at e0
  subst e0
  refine CallsH.of (l := [_]) Try.func30 rfl Try.ntmps30 Try.results30 rfl ?_
  repeat' (first | (refine St.d ?_; first | (refine dk 0 ?_; refine St.move rfl ?_) | (refine dk 1 ?_; refine St.assign rfl ?_) | (refine dk 23 ?_; first | refine St.call pg rfl rfl rfl ?_ | refine St.call0 pg rfl rfl rfl ?_ | refine St.callX pg rfl rfl rfl ?_ | fail)) | (refine OW.d ?_; refine dk 0 ?_; refine OW.step (gd_none rfl) rfl ?_) | (refine CW.d ?_; first | (refine dk 0 ?_; refine CW.seq ?_) | (refine dk 1 ?_; refine CW.region ?_)) | refine OW.nil ?_ | refine PK.code_normal ?_ | fail | fail)
  refine (cloneE_any hs (by omega)).mono ?_
  rintro cv h1 ⟨ho, s1, hnew⟩
  obtain ⟨cp, ccap, rfl⟩ := ho.shape
  repeat' (first | (refine St.d ?_; first | (refine dk 0 ?_; refine St.move rfl ?_) | (refine dk 1 ?_; refine St.assign rfl ?_) | (refine dk 11 ?_; refine St.len pg rfl rfl rfl ?_)) | (refine OW.d ?_; refine dk 0 ?_; refine OW.step (gd_none rfl) rfl ?_) | (refine CW.d ?_; first | (refine dk 0 ?_; refine CW.seq ?_) | (refine dk 1 ?_; refine CW.region ?_) | (refine dk 7 ?_; refine CW.block ?_)) | refine OW.nil ?_ | refine PK.code_normal ?_ | fail | fail)
  refine CW.loop (fun j : Nat => [(3, .slice cp l.length ccap), (7, .slice cp l.length ccap), (8, .int .i64 l.length), (9, .int .i64 j)])
    (fun j h2 => j ≤ l.length ∧ Stp [] h h2 ∧ OwnR (Rp.tagO (fun b => h.size ≤ b)) h2 (fun b => b < h2.size ∧ b ∉ blkOf (.slice cp l.length ccap)) 39 (.slice cp l.length ccap) (tagL j l)) (fun j => l.length - j) 0 (by (repeat (first | exact trivial | refine ⟨rfl, ?_⟩)))
    ⟨Nat.zero_le _, s1, tagO_of (ho.mono (G := fun b => b < h1.size ∧ b ∉ blkOf (.slice cp l.length ccap)) (fun b hb => ⟨by have := s1.size; omega, fun hm => by have := hnew b hm; omega⟩) (fun b hb hf => hf.2 hb))⟩ ?_
  rintro j h2 ⟨hj, s2, ho2⟩
  by_cases hjl : j < l.length
  · obtain ⟨e, he⟩ : ∃ e, l[j]? = some e := ⟨_, List.getElem?_eq_getElem hjl⟩
    obtain ⟨cb, co, cc, ev⟩ := ho2.val (by rw [tagL_len]; omega)
    rw [tagL_len] at ev
    simp only [Value.slice.injEq] at ev
    obtain ⟨rfl, _, rfl⟩ := ev
    have hat : (tagL j l)[j]? = some (false, e) := by rw [tagL_get, he]; simp
    obtain ⟨L, row, hL, hLl, hR, hC, _⟩ := ho2.put hat
    obtain ⟨G0, hR⟩ : ∃ G, Rp.ent.R h2 G row e := ⟨_, hR.1⟩
    obtain ⟨w, rfl, hk, hwF, hg⟩ := entR hR
    obtain ⟨q, qc, rfl⟩ := hk.s.sl.shape
    simp only [entV] at hC
    have hC6 : Cels h2 ⟨cb, co + j * 6, none⟩ _ := hC
    repeat' (first | (refine St.d ?_; first | (refine dk 0 ?_; refine St.move rfl ?_) | (refine dk 4 ?_; first | refine St.fieldAddr0 pg rfl rfl rfl rfl ?_ | refine St.fieldAddr pg rfl rfl rfl rfl ?_ | fail) | (refine dk 2 ?_; first | refine St.load pg rfl rfl rfl (by (first | assumption | exact Blk.cel (by (repeat (first | assumption | exact New.blk (by assumption) | exact Upd.blk (by assumption) | (apply New.old; assumption) | (apply Upd.keep; assumption; (focus (first | assumption | exact Ne.symm (by assumption) | omega | (intro hne; simp only at hne; omega)))) | (apply Stp.blk0; assumption) | (apply Stp.blk1; assumption; (focus (first | assumption | exact Ne.symm (by assumption) | omega | (intro hne; simp only at hne; omega))))))) (by rfl) | exact Cels.fld (by assumption) (by rfl) | exact Cels.fld0 (by assumption) (by rfl) | (repeat (first | assumption | (apply New.oldc; assumption) | (apply Upd.keepc; assumption; (focus (first | assumption | exact Ne.symm (by assumption) | omega | (intro hne; simp only at hne; omega)))) | (apply Stp.cel0; assumption))))) (by first | exact List.not_mem_nil | assumption) rfl ?_ | refine St.loadS pg rfl rfl rfl (by first | assumption | exact Blk.cels0 (by (repeat (first | assumption | exact New.blk (by assumption) | exact Upd.blk (by assumption) | (apply New.old; assumption) | (apply Upd.keep; assumption; (focus (first | assumption | exact Ne.symm (by assumption) | omega | (intro hne; simp only at hne; omega)))) | (apply Stp.blk0; assumption) | (apply Stp.blk1; assumption; (focus (first | assumption | exact Ne.symm (by assumption) | omega | (intro hne; simp only at hne; omega))))))) | (repeat (first | assumption | (apply Cels.newc; assumption) | (apply Cels.stpc; assumption) | (apply Cels.updc; assumption; (focus (first | assumption | exact Ne.symm (by assumption) | omega | (intro hne; simp only at hne; omega))))))) (by first | exact List.not_mem_nil | assumption) rfl rfl ?_ | fail) | (refine dk 1 ?_; refine St.assign rfl ?_) | (refine dk 23 ?_; first | refine St.call pg rfl rfl rfl ?_ | refine St.call0 pg rfl rfl rfl ?_ | refine St.callX pg rfl rfl rfl ?_ | fail) | (refine dk 14 ?_; refine St.lss rfl rfl ?_) | (refine dk 10 ?_; first | refine St.indexAddr1 pg rfl rfl rfl rfl rfl rfl rfl (by first | omega | decide | exact Nat.succ_pos _ | (show 0 < _; omega)) ?_ | refine St.indexAddr pg rfl rfl rfl rfl rfl rfl (by first | omega | decide | exact Nat.succ_pos _ | (show 0 < _; omega)) ?_ | refine St.indexAddrA1 pg rfl rfl rfl rfl rfl rfl rfl (by first | omega | decide) ?_ | refine St.indexAddrA pg rfl rfl rfl rfl rfl rfl (by first | omega | decide) ?_ | fail)) | (refine OW.d ?_; refine dk 0 ?_; refine OW.step (gd_none rfl) rfl ?_) | (refine CW.d ?_; first | (refine dk 0 ?_; refine CW.seq ?_) | (refine dk 1 ?_; refine CW.region ?_) | (refine dk 3 ?_; first | refine CW.cond_true rfl (by (first | rfl | assumption | exact decide_eq_true (by first | assumption | omega) | exact decide_eq_false (by first | assumption | exact not_not_intro (by assumption) | omega) | fail)) ?_ | refine CW.cond_false rfl (by (first | rfl | assumption | exact decide_eq_true (by first | assumption | omega) | exact decide_eq_false (by first | assumption | exact not_not_intro (by assumption) | omega) | fail)) ?_ | (refine CW.cond_dnot rfl ?_ ?_ <;> intro _ <;> try (exfalso; omega)) | (refine CW.cond_dec rfl ?_ ?_ <;> intro _ <;> try (exfalso; omega)) | (refine CW.cond rfl ?_ ?_ <;> intro _) | fail) | (refine dk 4 ?_; refine CW.skip ?_) | (refine dk 7 ?_; refine CW.block ?_)) | refine OW.nil ?_ | refine PK.code_normal ?_ | fail | fail)
    refine (clone_any hk.s (by have := hv e (List.mem_of_getElem? he); omega)).mono ?_
    rintro wv h3 ⟨hw, s3, hwn⟩
    obtain ⟨q2, qc2, rfl⟩ := hw.sl.shape
    have hcbl := hL.lt
    have ho3 := ho2.grow s3
    have hz2 := s2.size
    have hz3 := s3.size
    have hncb : h.size ≤ cb := hnew cb (by simp [blkOf])
    obtain ⟨L, row, hL, hLl, hR, _, hput⟩ := ho3.put hat
    obtain ⟨G3, hR⟩ : ∃ G, Rp.ent.R h3 G row e := ⟨_, hR.1⟩
    obtain ⟨w3, rfl, hk3, hwF3, _⟩ := entR hR
    have hlt : co + j * ti39.size + 5 < L.length := by
      have : co + j * 6 + 6 ≤ L.length := hLl
      show co + j * 6 + 5 < _
      omega
    repeat' (first | (refine St.d ?_; first | (refine dk 0 ?_; refine St.move rfl ?_) | (refine dk 4 ?_; first | refine St.fieldAddr0 pg rfl rfl rfl rfl ?_ | refine St.fieldAddr pg rfl rfl rfl rfl ?_ | fail) | (refine dk 3 ?_; first | (refine St.store pg rfl rfl rfl rfl rfl (by (repeat (first | assumption | exact New.blk (by assumption) | exact Upd.blk (by assumption) | (apply New.old; assumption) | (apply Upd.keep; assumption; (focus (first | assumption | exact Ne.symm (by assumption) | omega | (intro hne; simp only at hne; omega)))) | (apply Stp.blk0; assumption) | (apply Stp.blk1; assumption; (focus (first | assumption | exact Ne.symm (by assumption) | omega | (intro hne; simp only at hne; omega))))))) (by (first | exact SetL.set (by assumption) | (repeat (first | exact SetL.z | apply SetL.s)))) rfl ?_; intro _ _ _) | (refine St.storeS pg rfl rfl rfl rfl (by simp) (by first | (simp [Value.oneCell', *]; done) | (intro u hu; simp only [List.mem_cons, List.not_mem_nil, or_false] at hu; repeat' (first | (rcases hu with rfl | hu; first | rfl | assumption) | (subst hu; first | rfl | assumption)))) (by (repeat (first | assumption | exact New.blk (by assumption) | exact Upd.blk (by assumption) | (apply New.old; assumption) | (apply Upd.keep; assumption; (focus (first | assumption | exact Ne.symm (by assumption) | omega | (intro hne; simp only at hne; omega)))) | (apply Stp.blk0; assumption) | (apply Stp.blk1; assumption; (focus (first | assumption | exact Ne.symm (by assumption) | omega | (intro hne; simp only at hne; omega))))))) (by (repeat (first | exact SetR.z | (apply SetR.c; (focus (first | exact SetL.set (by assumption) | (repeat (first | exact SetL.z | apply SetL.s)))))))) rfl ?_; intro _ _ _) | fail) | (refine dk 18 ?_; refine St.add rfl rfl (by omega) ?_) | (refine dk 10 ?_; first | refine St.indexAddr1 pg rfl rfl rfl rfl rfl rfl rfl (by first | omega | decide | exact Nat.succ_pos _ | (show 0 < _; omega)) ?_ | refine St.indexAddr pg rfl rfl rfl rfl rfl rfl (by first | omega | decide | exact Nat.succ_pos _ | (show 0 < _; omega)) ?_ | refine St.indexAddrA1 pg rfl rfl rfl rfl rfl rfl rfl (by first | omega | decide) ?_ | refine St.indexAddrA pg rfl rfl rfl rfl rfl rfl (by first | omega | decide) ?_ | fail)) | (refine OW.d ?_; refine dk 0 ?_; refine OW.step (gd_none rfl) rfl ?_) | (refine CW.d ?_; first | (refine dk 1 ?_; refine CW.region ?_)) | refine OW.nil ?_ | refine PK.code_normal ?_ | refine PK.blk_normal ?_ | refine PK.lp_normal ?_ | fail | fail)
    rename_i h4 hu4 z4
    have s4 : Stp [] h h4 := Stp.upd hu4 (s2.trans s3) (.inr hncb)
    have kw : CkV h3 (.slice q2 e.vot.length qc2) e.vot := ⟨⟨hw.sl⟩, hk.l, hk.r⟩
    have hqn : ∀ b ∈ rdOf (.slice q2 e.vot.length qc2), h2.size ≤ b ∧ b < h3.size := fun b hb => ⟨hwn b (rdOf_blk hb), hw.lt b (rdOf_blk hb)⟩
    have hqb : ∀ b ∈ rdOf (.slice q2 e.vot.length qc2), ∃ L, Blk h3 b 3 L := fun b hb => by
      rcases hw.ok with ⟨h1, _⟩ | ⟨b', o', cap', L, he, hb', _⟩
      · rw [h1] at hb; simp [rdOf] at hb
      · have := rdOf_blk hb
        rw [he] at this
        simp [blkOf] at this
        subst this; exact ⟨L, hb'⟩
    refine ⟨j + 1, by (repeat (first | exact trivial | refine ⟨rfl, ?_⟩)), ⟨hjl, s4, ?_⟩, by omega⟩
    rw [← tagL_set he]
    have hk4 := kw.stp hu4.stp (fun b hb hm => by have := hqn b hb; simp at hm; omega)
    refine hput _ 5 _ h4 (true, e) (fun b hb => ⟨by have := hb.1; omega, hb.2⟩) (fun hf => hf.2 (by simp [blkOf])) (show 5 < 6 by omega) hu4 ⟨entRm (e := e) hk4 (fun b hb => ?_) hg, fun _ => ⟨_, rfl, hk4, fun b hb => ⟨?_, ?_⟩, hg⟩⟩
    · have := hqn b hb
      exact ⟨by omega, by simp [blkOf]; omega⟩
    · have := hqn b hb
      exact ⟨⟨by omega, by simp [blkOf]; omega⟩, by omega⟩
    · obtain ⟨L9, hL9⟩ := hqb b hb
      have := hqn b hb
      exact ⟨L9, hu4.keep (by omega) hL9⟩
  · have : j = l.length := by omega
    subst this
    repeat' (first | (refine St.d ?_; first | (refine dk 0 ?_; refine St.move rfl ?_) | (refine dk 1 ?_; refine St.assign rfl ?_) | (refine dk 14 ?_; refine St.lss rfl rfl ?_)) | (refine OW.d ?_; refine dk 0 ?_; refine OW.step (gd_none rfl) rfl ?_) | (refine CW.d ?_; first | (refine dk 0 ?_; refine CW.seq ?_) | (refine dk 1 ?_; refine CW.region ?_) | (refine dk 3 ?_; first | refine CW.cond_true rfl (by (first | rfl | assumption | exact decide_eq_true (by first | assumption | omega) | exact decide_eq_false (by first | assumption | exact not_not_intro (by assumption) | omega) | fail)) ?_ | refine CW.cond_false rfl (by (first | rfl | assumption | exact decide_eq_true (by first | assumption | omega) | exact decide_eq_false (by first | assumption | exact not_not_intro (by assumption) | omega) | fail)) ?_ | (refine CW.cond_dnot rfl ?_ ?_ <;> intro _ <;> try (exfalso; omega)) | (refine CW.cond_dec rfl ?_ ?_ <;> intro _ <;> try (exfalso; omega)) | (refine CW.cond rfl ?_ ?_ <;> intro _) | fail) | (refine dk 5 ?_; refine CW.ret ?_) | (refine dk 6 ?_; refine CW.exit ?_)) | refine OW.nil ?_ | refine PK.code_normal ?_ | refine PK.code_exit ?_ | refine PK.lp_exit ?_ | refine PK.blk_exit ?_ | refine PK.nil_ret ?_ | fail | fail)
    exact ⟨_, ResOK.one rfl, OwnR.mono (fun b hb => ⟨hb.2, hb.1.1, hb.1.2⟩) (fun b hb hf => hf.2.2 hb) (tagO_to ho2 (Nat.le_refl _)), s2, hnew⟩
/-- The entries from an index on, as a copy. -/
theorem entriesO_any {h : Heap} {K : Nat} {g : LogS} {O : Nat → Prop} (k : LogAt h K g O) {r : Int} (hr1 : rng r) :
    CallsH Try.prog 16 #[.pointer (some ⟨K, 0, none⟩), .int .i64 r] h fun x h' => OwnO h' (fun b => h.size ≤ b ∧ b < h'.size ∧ b ∉ blkOf x) x (g.ents.drop (r.toNat - 1)) ∧ Stp [] h h' ∧ ∀ b ∈ blkOf x, h.size ≤ b := by
  obtain ⟨p, cap, c0, c1, c2, c3, c4, cp, hr⟩ := k.rd
  have hl := k.len
  have hc : g.ents.length ≤ cap := by
    rcases sliceR_cases hr with ⟨h1, _⟩ | ⟨b, o, cap', h1, h2, _⟩
    · rw [h1]; exact Nat.zero_le _
    · simp only [List.cons.injEq, Value.slice.injEq, and_true] at h1
      omega
  refine CallsH.of (l := [_, _]) Try.func16 rfl Try.ntmps16 Try.results16 rfl ?_
  unfold rng at hr1
  repeat' (first | (refine St.d ?_; first | (refine dk 0 ?_; refine St.move rfl ?_) | (refine dk 4 ?_; first | refine St.fieldAddr0 pg rfl rfl rfl rfl ?_ | refine St.fieldAddr pg rfl rfl rfl rfl ?_ | fail) | (refine dk 2 ?_; first | refine St.load pg rfl rfl rfl (by (first | assumption | exact Blk.cel (by (repeat (first | assumption | exact New.blk (by assumption) | exact Upd.blk (by assumption) | (apply New.old; assumption) | (apply Upd.keep; assumption; (focus (first | assumption | exact Ne.symm (by assumption) | omega | (intro hne; simp only at hne; omega)))) | (apply Stp.blk0; assumption) | (apply Stp.blk1; assumption; (focus (first | assumption | exact Ne.symm (by assumption) | omega | (intro hne; simp only at hne; omega))))))) (by rfl) | exact Cels.fld (by assumption) (by rfl) | exact Cels.fld0 (by assumption) (by rfl) | (repeat (first | assumption | (apply New.oldc; assumption) | (apply Upd.keepc; assumption; (focus (first | assumption | exact Ne.symm (by assumption) | omega | (intro hne; simp only at hne; omega)))) | (apply Stp.cel0; assumption))))) (by first | exact List.not_mem_nil | assumption) rfl ?_ | refine St.loadS pg rfl rfl rfl (by first | assumption | exact Blk.cels0 (by (repeat (first | assumption | exact New.blk (by assumption) | exact Upd.blk (by assumption) | (apply New.old; assumption) | (apply Upd.keep; assumption; (focus (first | assumption | exact Ne.symm (by assumption) | omega | (intro hne; simp only at hne; omega)))) | (apply Stp.blk0; assumption) | (apply Stp.blk1; assumption; (focus (first | assumption | exact Ne.symm (by assumption) | omega | (intro hne; simp only at hne; omega))))))) | (repeat (first | assumption | (apply Cels.newc; assumption) | (apply Cels.stpc; assumption) | (apply Cels.updc; assumption; (focus (first | assumption | exact Ne.symm (by assumption) | omega | (intro hne; simp only at hne; omega))))))) (by first | exact List.not_mem_nil | assumption) rfl rfl ?_ | fail) | (refine dk 1 ?_; refine St.assign rfl ?_) | (refine dk 5 ?_; refine St.nilCheck rfl ?_) | (refine dk 11 ?_; refine St.len pg rfl rfl rfl ?_) | (refine dk 19 ?_; refine St.sub rfl rfl (by omega) ?_) | (refine dk 26 ?_; refine St.imin rfl rfl ?_) | (refine dk 27 ?_; refine St.imax rfl rfl ?_)) | (refine OW.d ?_; refine dk 0 ?_; refine OW.step (gd_none rfl) rfl ?_) | (refine CW.d ?_; first | (refine dk 0 ?_; refine CW.seq ?_) | (refine dk 1 ?_; refine CW.region ?_)) | refine OW.nil ?_ | refine PK.code_normal ?_ | refine RW.step rfl (gd_none rfl) rfl ?_ | (refine CW.d ?_; refine dk 2 ?_; refine CW.region_draw [] ord16 pg.mix (by kernel_rfl) (by kernel_rfl) ?_) | fail)
  refine St.d ?_
  refine dk 38 ?_
  refine St.sliceL (l' := min (r.toNat - 1) g.ents.length) pg rfl rfl rfl rfl rfl (by omega) (by omega) ?_
  repeat' (first | (refine St.d ?_; first | (refine dk 23 ?_; first | refine St.call pg rfl rfl rfl ?_ | refine St.call0 pg rfl rfl rfl ?_ | refine St.callX pg rfl rfl rfl ?_ | fail)) | (refine OW.d ?_; refine dk 0 ?_; refine OW.step (gd_none rfl) rfl ?_) | fail | refine RW.step rfl (gd_none rfl) rfl ?_ | (refine CW.d ?_; refine dk 2 ?_; refine CW.region_draw [] ord16 pg.mix (by kernel_rfl) (by kernel_rfl) ?_) | fail)
  have hsub := sliceR_sub (i := min (r.toNat - 1) g.ents.length) (j := g.ents.length) (mm := cap) (c' := cap - min (r.toNat - 1) g.ents.length) hr (by omega) (Nat.le_refl _) hc (by omega)
  have hde : (List.drop (min (r.toNat - 1) g.ents.length) g.ents).take (g.ents.length - min (r.toNat - 1) g.ents.length) = g.ents.drop (r.toNat - 1) := by
    rw [List.take_of_length_le (by simp)]
    by_cases hle : r.toNat - 1 ≤ g.ents.length
    · rw [Nat.min_eq_left hle]
    · rw [Nat.min_eq_right (by omega), List.drop_of_length_le (Nat.le_refl _), List.drop_of_length_le (by omega)]
  rw [hde] at hsub
  refine (clone_entsO hsub (by simp; omega) (fun e he => k.inv.val.vot (by have := k.inv.n5; omega) e (List.mem_of_mem_drop he))).mono ?_
  rintro x h1 hx
  repeat' (first | (refine St.d ?_; first | (refine dk 1 ?_; refine St.assign rfl ?_)) | (refine OW.d ?_; refine dk 0 ?_; refine OW.step (gd_none rfl) rfl ?_) | (refine CW.d ?_; first | (refine dk 5 ?_; refine CW.ret ?_)) | refine PK.code_normal ?_ | refine PK.nil_ret ?_ | refine RW.done ?_ | refine RW.step rfl (gd_none rfl) rfl ?_ | (refine CW.d ?_; refine dk 2 ?_; refine CW.region_draw [] ord16 pg.mix (by kernel_rfl) (by kernel_rfl) ?_) | fail)
  exact ⟨_, ResOK.one rfl, hx⟩
set_option maxHeartbeats 2000000 in
theorem sendO_ok {h : Heap} {K : Nat} {g : LogS} {O : Nat → Prop} (k : LogAt h K g O) (hld : 0 < g.leads) {j : Nat} (hj : j < g.n) (hji : j ≠ g.i) :
    CallsH Try.prog 14 #[.pointer (some ⟨K, 0, none⟩), .int .i64 j] h fun r h' => ∃ w, r = .tuple #[.agg (msgV (sendM g j) zs0 w).toArray, .int .i64 0] ∧ OwnO h' (fun b => h.size ≤ b ∧ b < h'.size ∧ b ∉ blkOf w) w (sendM g j).ents ∧ (∀ b ∈ blkOf w, h.size ≤ b) ∧ Stp [] h h' := by
  have hn5 := k.inv.n5
  have hpr := k.inv.pr hld j (by omega)
  have hl := k.len
  refine CallsH.of (l := [_, _]) Try.func14 rfl Try.ntmps14 Try.results14 rfl ?_
  repeat' (first | (refine St.d ?_; first | (refine dk 1 ?_; refine St.assign rfl ?_) | (refine dk 30 ?_; refine St.alloc pg rfl rfl rfl ?_; intro _ _ _ _ _)) | (refine OW.d ?_; refine dk 0 ?_; refine OW.step (gd_none rfl) rfl ?_) | (refine CW.d ?_; first | (refine dk 0 ?_; refine CW.seq ?_) | (refine dk 1 ?_; refine CW.region ?_)) | refine OW.nil ?_ | refine RW.step rfl (gd_none rfl) rfl ?_ | fail)
  rename_i R h1 hn1 eR z1
  have s1 : Stp [] h h1 := hn1.stp
  have hR := hn1.blk
  have k1 := k.grow s1
  clear hn1
  obtain ⟨p, cap, c0, c1, c2, c3, c4, cp, hr⟩ := k1.rd
  have hc : g.ents.length ≤ cap := by
    rcases sliceR_cases hr with ⟨h1, _⟩ | ⟨b, o, cap', h1, h2, _⟩
    · rw [h1]; exact Nat.zero_le _
    · simp only [List.cons.injEq, Value.slice.injEq, and_true] at h1
      omega
  obtain ⟨cn, cm⟩ := cp j (by omega)
  obtain ⟨m, hm⟩ : ∃ m, g.nx j = m + 1 := ⟨g.nx j - 1, by omega⟩
  have em : ((m + 1 : Nat) : Int) - 1 = (m : Int) := by omega
  rw [hm] at cn
  have hsm : sendM g j = { kind := 7, frm := g.i, to := j, term := g.leads, index := m, logt := termAt g.ents m, commit := g.commit, granted := false, ents := (g.ents.drop m).take 16 } := by
    unfold sendM; rw [hm]; simp
  rw [hsm]
  clear hsm
  repeat' (first | (refine St.d ?_; first | (refine dk 0 ?_; refine St.move rfl ?_) | (refine dk 4 ?_; first | refine St.fieldAddr0 pg rfl rfl rfl rfl ?_ | refine St.fieldAddr pg rfl rfl rfl rfl ?_ | fail) | (refine dk 2 ?_; first | refine St.load pg rfl rfl rfl (by (first | assumption | exact Blk.cel (by (repeat (first | assumption | exact New.blk (by assumption) | exact Upd.blk (by assumption) | (apply New.old; assumption) | (apply Upd.keep; assumption; (focus (first | assumption | exact Ne.symm (by assumption) | omega | (intro hne; simp only at hne; omega)))) | (apply Stp.blk0; assumption) | (apply Stp.blk1; assumption; (focus (first | assumption | exact Ne.symm (by assumption) | omega | (intro hne; simp only at hne; omega))))))) (by rfl) | exact Cels.fld (by assumption) (by rfl) | exact Cels.fld0 (by assumption) (by rfl) | (repeat (first | assumption | (apply New.oldc; assumption) | (apply Upd.keepc; assumption; (focus (first | assumption | exact Ne.symm (by assumption) | omega | (intro hne; simp only at hne; omega)))) | (apply Stp.cel0; assumption))))) (by first | exact List.not_mem_nil | assumption) rfl ?_ | refine St.loadS pg rfl rfl rfl (by first | assumption | exact Blk.cels0 (by (repeat (first | assumption | exact New.blk (by assumption) | exact Upd.blk (by assumption) | (apply New.old; assumption) | (apply Upd.keep; assumption; (focus (first | assumption | exact Ne.symm (by assumption) | omega | (intro hne; simp only at hne; omega)))) | (apply Stp.blk0; assumption) | (apply Stp.blk1; assumption; (focus (first | assumption | exact Ne.symm (by assumption) | omega | (intro hne; simp only at hne; omega))))))) | (repeat (first | assumption | (apply Cels.newc; assumption) | (apply Cels.stpc; assumption) | (apply Cels.updc; assumption; (focus (first | assumption | exact Ne.symm (by assumption) | omega | (intro hne; simp only at hne; omega))))))) (by first | exact List.not_mem_nil | assumption) rfl rfl ?_ | fail) | (refine dk 1 ?_; refine St.assign rfl ?_) | (refine dk 5 ?_; refine St.nilCheck rfl ?_) | (refine dk 23 ?_; first | refine St.call pg rfl rfl rfl ?_ | refine St.call0 pg rfl rfl rfl ?_ | refine St.callX pg rfl rfl rfl ?_ | fail) | (refine dk 12 ?_; first | refine St.eql rfl rfl ?_ | refine St.eql_pnil pg rfl rfl rfl rfl ?_ | refine St.eql_snil pg rfl rfl rfl rfl ?_ | refine St.beql pg rfl rfl rfl rfl ?_ | fail)) | (refine OW.d ?_; refine dk 0 ?_; refine OW.step (gd_none rfl) rfl ?_) | (refine CW.d ?_; first | (refine dk 0 ?_; refine CW.seq ?_) | (refine dk 1 ?_; refine CW.region ?_) | (refine dk 3 ?_; first | refine CW.cond_true rfl (by (first | rfl | assumption | exact decide_eq_true (by first | assumption | omega) | exact decide_eq_false (by first | assumption | exact not_not_intro (by assumption) | omega) | fail)) ?_ | refine CW.cond_false rfl (by (first | rfl | assumption | exact decide_eq_true (by first | assumption | omega) | exact decide_eq_false (by first | assumption | exact not_not_intro (by assumption) | omega) | fail)) ?_ | (refine CW.cond_dnot rfl ?_ ?_ <;> intro _ <;> try (exfalso; omega)) | (refine CW.cond_dec rfl ?_ ?_ <;> intro _ <;> try (exfalso; omega)) | (refine CW.cond rfl ?_ ?_ <;> intro _) | fail) | (refine dk 7 ?_; refine CW.block ?_)) | refine OW.nil ?_ | refine PK.code_normal ?_ | refine RW.step rfl (gd_none rfl) rfl ?_ | fail)
  refine (other_any k1 j).same ?_
  rw [decide_eq_true (show oth g j from ⟨by omega, by omega, by omega⟩)]
  repeat' (first | (refine St.d ?_; first | (refine dk 0 ?_; refine St.move rfl ?_) | (refine dk 4 ?_; first | refine St.fieldAddr0 pg rfl rfl rfl rfl ?_ | refine St.fieldAddr pg rfl rfl rfl rfl ?_ | fail) | (refine dk 2 ?_; first | refine St.load pg rfl rfl rfl (by (first | assumption | exact Blk.cel (by (repeat (first | assumption | exact New.blk (by assumption) | exact Upd.blk (by assumption) | (apply New.old; assumption) | (apply Upd.keep; assumption; (focus (first | assumption | exact Ne.symm (by assumption) | omega | (intro hne; simp only at hne; omega)))) | (apply Stp.blk0; assumption) | (apply Stp.blk1; assumption; (focus (first | assumption | exact Ne.symm (by assumption) | omega | (intro hne; simp only at hne; omega))))))) (by rfl) | exact Cels.fld (by assumption) (by rfl) | exact Cels.fld0 (by assumption) (by rfl) | (repeat (first | assumption | (apply New.oldc; assumption) | (apply Upd.keepc; assumption; (focus (first | assumption | exact Ne.symm (by assumption) | omega | (intro hne; simp only at hne; omega)))) | (apply Stp.cel0; assumption))))) (by first | exact List.not_mem_nil | assumption) rfl ?_ | refine St.loadS pg rfl rfl rfl (by first | assumption | exact Blk.cels0 (by (repeat (first | assumption | exact New.blk (by assumption) | exact Upd.blk (by assumption) | (apply New.old; assumption) | (apply Upd.keep; assumption; (focus (first | assumption | exact Ne.symm (by assumption) | omega | (intro hne; simp only at hne; omega)))) | (apply Stp.blk0; assumption) | (apply Stp.blk1; assumption; (focus (first | assumption | exact Ne.symm (by assumption) | omega | (intro hne; simp only at hne; omega))))))) | (repeat (first | assumption | (apply Cels.newc; assumption) | (apply Cels.stpc; assumption) | (apply Cels.updc; assumption; (focus (first | assumption | exact Ne.symm (by assumption) | omega | (intro hne; simp only at hne; omega))))))) (by first | exact List.not_mem_nil | assumption) rfl rfl ?_ | fail) | (refine dk 1 ?_; refine St.assign rfl ?_) | (refine dk 5 ?_; refine St.nilCheck rfl ?_) | (refine dk 18 ?_; refine St.add rfl rfl (by omega) ?_) | (refine dk 10 ?_; first | refine St.indexAddr1 pg rfl rfl rfl rfl rfl rfl rfl (by first | omega | decide | exact Nat.succ_pos _ | (show 0 < _; omega)) ?_ | refine St.indexAddr pg rfl rfl rfl rfl rfl rfl (by first | omega | decide | exact Nat.succ_pos _ | (show 0 < _; omega)) ?_ | refine St.indexAddrA1 pg rfl rfl rfl rfl rfl rfl rfl (by first | omega | decide) ?_ | refine St.indexAddrA pg rfl rfl rfl rfl rfl rfl (by first | omega | decide) ?_ | fail) | (refine dk 11 ?_; refine St.len pg rfl rfl rfl ?_) | (refine dk 7 ?_; first | refine St.not_dec rfl ?_ | refine St.not rfl ?_ | fail) | (refine dk 19 ?_; refine St.sub rfl rfl (by omega) ?_) | (refine dk 26 ?_; refine St.imin rfl rfl ?_)) | (refine OW.d ?_; refine dk 0 ?_; refine OW.step (gd_none rfl) rfl ?_) | (refine CW.d ?_; first | (refine dk 0 ?_; refine CW.seq ?_) | (refine dk 1 ?_; refine CW.region ?_) | (refine dk 3 ?_; first | refine CW.cond_true rfl (by (first | rfl | assumption | exact decide_eq_true (by first | assumption | omega) | exact decide_eq_false (by first | assumption | exact not_not_intro (by assumption) | omega) | fail)) ?_ | refine CW.cond_false rfl (by (first | rfl | assumption | exact decide_eq_true (by first | assumption | omega) | exact decide_eq_false (by first | assumption | exact not_not_intro (by assumption) | omega) | fail)) ?_ | (refine CW.cond_dnot rfl ?_ ?_ <;> intro _ <;> try (exfalso; omega)) | (refine CW.cond_dec rfl ?_ ?_ <;> intro _ <;> try (exfalso; omega)) | (refine CW.cond rfl ?_ ?_ <;> intro _) | fail) | (refine dk 4 ?_; refine CW.skip ?_)) | refine OW.nil ?_ | refine PK.code_normal ?_ | refine PK.blk_normal ?_ | refine RW.step rfl (gd_none rfl) rfl ?_ | fail)
  rw [em]
  repeat' (first | (refine St.d ?_; first | (refine dk 0 ?_; refine St.move rfl ?_) | (refine dk 4 ?_; first | refine St.fieldAddr0 pg rfl rfl rfl rfl ?_ | refine St.fieldAddr pg rfl rfl rfl rfl ?_ | fail) | (refine dk 2 ?_; first | refine St.load pg rfl rfl rfl (by (first | assumption | exact Blk.cel (by (repeat (first | assumption | exact New.blk (by assumption) | exact Upd.blk (by assumption) | (apply New.old; assumption) | (apply Upd.keep; assumption; (focus (first | assumption | exact Ne.symm (by assumption) | omega | (intro hne; simp only at hne; omega)))) | (apply Stp.blk0; assumption) | (apply Stp.blk1; assumption; (focus (first | assumption | exact Ne.symm (by assumption) | omega | (intro hne; simp only at hne; omega))))))) (by rfl) | exact Cels.fld (by assumption) (by rfl) | exact Cels.fld0 (by assumption) (by rfl) | (repeat (first | assumption | (apply New.oldc; assumption) | (apply Upd.keepc; assumption; (focus (first | assumption | exact Ne.symm (by assumption) | omega | (intro hne; simp only at hne; omega)))) | (apply Stp.cel0; assumption))))) (by first | exact List.not_mem_nil | assumption) rfl ?_ | refine St.loadS pg rfl rfl rfl (by first | assumption | exact Blk.cels0 (by (repeat (first | assumption | exact New.blk (by assumption) | exact Upd.blk (by assumption) | (apply New.old; assumption) | (apply Upd.keep; assumption; (focus (first | assumption | exact Ne.symm (by assumption) | omega | (intro hne; simp only at hne; omega)))) | (apply Stp.blk0; assumption) | (apply Stp.blk1; assumption; (focus (first | assumption | exact Ne.symm (by assumption) | omega | (intro hne; simp only at hne; omega))))))) | (repeat (first | assumption | (apply Cels.newc; assumption) | (apply Cels.stpc; assumption) | (apply Cels.updc; assumption; (focus (first | assumption | exact Ne.symm (by assumption) | omega | (intro hne; simp only at hne; omega))))))) (by first | exact List.not_mem_nil | assumption) rfl rfl ?_ | fail) | (refine dk 5 ?_; refine St.nilCheck rfl ?_)) | (refine OW.d ?_; refine dk 0 ?_; refine OW.step (gd_none rfl) rfl ?_) | fail | refine RW.step rfl (gd_none rfl) rfl ?_ | (refine CW.d ?_; refine dk 2 ?_; refine CW.region_draw [] ord14 pg.mix (by kernel_rfl) (by kernel_rfl) ?_) | fail)
  refine St.d ?_
  refine dk 38 ?_
  refine St.sliceLHM (l' := m) (m' := min (m + 16) g.ents.length) (m2 := min (m + 16) g.ents.length) pg rfl rfl rfl rfl rfl rfl rfl (by omega) (by omega) (by omega) (by omega) (Nat.le_refl _) (by omega) ?_
  have hsub := sliceR_sub (i := m) (j := min (m + 16) g.ents.length) (mm := min (m + 16) g.ents.length) (c' := min (m + 16) g.ents.length - m) hr (by omega) (by omega) (Nat.le_refl _) (Nat.le_refl _)
  have hte : (g.ents.drop m).take (min (m + 16) g.ents.length - m) = (g.ents.drop m).take 16 := by
    by_cases hle : m + 16 ≤ g.ents.length
    · rw [Nat.min_eq_left hle]; congr 1; omega
    · rw [Nat.min_eq_right (by omega), List.take_of_length_le (by simp), List.take_of_length_le (by simp; omega)]
  rw [hte] at hsub
  repeat' (first | (refine St.d ?_; first | (refine dk 23 ?_; first | refine St.call pg rfl rfl rfl ?_ | refine St.call0 pg rfl rfl rfl ?_ | refine St.callX pg rfl rfl rfl ?_ | fail)) | (refine OW.d ?_; refine dk 0 ?_; refine OW.step (gd_none rfl) rfl ?_) | fail | refine RW.step rfl (gd_none rfl) rfl ?_ | (refine CW.d ?_; refine dk 2 ?_; refine CW.region_draw [] ord14 pg.mix (by kernel_rfl) (by kernel_rfl) ?_) | fail)
  refine (term_any k1 (j := m) (by omega)).same ?_
  refine ⟨Stp.refl _, ?_⟩
  repeat' (first | (refine St.d ?_; first | (refine dk 23 ?_; first | refine St.call pg rfl rfl rfl ?_ | refine St.call0 pg rfl rfl rfl ?_ | refine St.callX pg rfl rfl rfl ?_ | fail)) | (refine OW.d ?_; refine dk 0 ?_; refine OW.step (gd_none rfl) rfl ?_) | fail | refine RW.step rfl (gd_none rfl) rfl ?_ | (refine CW.d ?_; refine dk 2 ?_; refine CW.region_draw [] ord14 pg.mix (by kernel_rfl) (by kernel_rfl) ?_) | fail)
  refine (clone_entsO hsub (by simp; omega) (fun e he => k.inv.val.vot (by omega) e (List.mem_of_mem_drop (List.mem_of_mem_take he)))).mono ?_
  rintro cv h2 ⟨hcv, s2, hcn⟩
  have hclt := hcv.blk
  have hz1 := s1.size
  have hz2 := s2.size
  have hR2 := s2.blk0 hR
  have hRl := hR.lt
  obtain ⟨cp', ccap, rfl⟩ := hcv.shape
  refine ⟨s2, ?_⟩
  repeat' (first | (refine St.d ?_; first | (refine dk 1 ?_; refine St.assign rfl ?_) | (refine dk 3 ?_; first | (refine St.store pg rfl rfl rfl rfl rfl (by (repeat (first | assumption | exact New.blk (by assumption) | exact Upd.blk (by assumption) | (apply New.old; assumption) | (apply Upd.keep; assumption; (focus (first | assumption | exact Ne.symm (by assumption) | omega | (intro hne; simp only at hne; omega)))) | (apply Stp.blk0; assumption) | (apply Stp.blk1; assumption; (focus (first | assumption | exact Ne.symm (by assumption) | omega | (intro hne; simp only at hne; omega))))))) (by (first | exact SetL.set (by assumption) | (repeat (first | exact SetL.z | apply SetL.s)))) rfl ?_; intro _ _ _) | (refine St.storeS pg rfl rfl rfl rfl (by simp) (by first | (simp [Value.oneCell', *]; done) | (intro u hu; simp only [List.mem_cons, List.not_mem_nil, or_false] at hu; repeat' (first | (rcases hu with rfl | hu; first | rfl | assumption) | (subst hu; first | rfl | assumption)))) (by (repeat (first | assumption | exact New.blk (by assumption) | exact Upd.blk (by assumption) | (apply New.old; assumption) | (apply Upd.keep; assumption; (focus (first | assumption | exact Ne.symm (by assumption) | omega | (intro hne; simp only at hne; omega)))) | (apply Stp.blk0; assumption) | (apply Stp.blk1; assumption; (focus (first | assumption | exact Ne.symm (by assumption) | omega | (intro hne; simp only at hne; omega))))))) (by (repeat (first | exact SetR.z | (apply SetR.c; (focus (first | exact SetL.set (by assumption) | (repeat (first | exact SetL.z | apply SetL.s)))))))) rfl ?_; intro _ _ _) | fail) | (refine dk 28 ?_; refine St.build pg rfl rfl rfl rfl rfl (by (repeat (first | exact Fill.nil | (apply Fill.one; rfl; rfl; (focus (first | exact SetL.set (by assumption) | (repeat (first | exact SetL.z | apply SetL.s))))) | (apply Fill.agg; rfl; rfl; (focus (repeat (first | exact SetR.z | (apply SetR.c; (focus (first | exact SetL.set (by assumption) | (repeat (first | exact SetL.z | apply SetL.s)))))))))))) ?_)) | (refine OW.d ?_; refine dk 0 ?_; refine OW.step (gd_none rfl) rfl ?_) | (refine CW.d ?_; first | (refine dk 5 ?_; refine CW.ret ?_)) | refine PK.code_normal ?_ | refine PK.nil_ret ?_ | refine RW.done ?_ | refine RW.step rfl (gd_none rfl) rfl ?_ | (refine CW.d ?_; refine dk 2 ?_; refine CW.region_draw [] ord14 pg.mix (by kernel_rfl) (by kernel_rfl) ?_) | fail)
  rename_i h3 hu3 z3
  have hcbl : ∀ b ∈ blkOf (.slice cp' ((g.ents.drop m).take 16).length ccap), b ≠ R := fun b hb => by
    have := hcn b hb; omega
  refine ⟨_, ResOK.cell1 pg rfl rfl rfl hu3.blk.cels0 rfl rfl, _, rfl, ?_, fun b hb => by have := hcn b hb; omega, Stp.upd hu3 (s1.trans s2) (.inr (by omega))⟩
  exact OwnR.mono (fun b hb => ⟨by omega, by omega, hb.2.2⟩) (fun b hb hf => hf.2.2 hb) (hcv.stp hu3.stp (fun b hb => by simp; omega) (fun b hb => by simpa using hcbl b hb))
end Go.Proofs.Ytdoefbnjehngmaa
