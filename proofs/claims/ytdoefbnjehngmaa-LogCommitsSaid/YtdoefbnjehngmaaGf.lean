/- The log of package replog in the heap, and its small functions; conditions: the log lies in the heap. -/
import Derived.Test.YtdoefbnjehngmaaGe
namespace Go.Proofs.Ytdoefbnjehngmaa
open Go Go.CF
set_option maxRecDepth 20000

structure LogS where
  n : Nat
  i : Nat
  ents : List Ent
  commit : Nat
  leads : Nat
  nx : Nat → Nat
  mt : Nat → Nat
structure LogC (L : List Value) (g : LogS) (ev : Value) : Prop where
  len : L.length = 15
  n : L[0]? = some (.int .i64 g.n)
  i : L[1]? = some (.int .i64 g.i)
  e : L[2]? = some ev
  c : L[3]? = some (.int .i64 g.commit)
  l : L[4]? = some (.int .i64 g.leads)
  nx : ∀ j, j < 5 → L[5 + j * 2]? = some (.int .i64 (g.nx j))
  mt : ∀ j, j < 5 → L[5 + j * 2 + 1]? = some (.int .i64 (g.mt j))
structure LogOK (g : LogS) : Prop where
  n5 : 1 ≤ g.n ∧ g.n ≤ 5
  i : g.i < g.n
  val : valE g.n g.ents
  cm : g.commit ≤ g.ents.length
  ld : g.leads ≤ 1048576
  pr : 0 < g.leads → ∀ j, j < 5 → 1 ≤ g.nx j ∧ g.nx j ≤ g.ents.length + 1 ∧ g.mt j ≤ g.ents.length
structure LogAt (h : Heap) (K : Nat) (g : LogS) (O : Nat → Prop) : Prop where
  ok : ∃ L ev, Blk h K 77 L ∧ LogC L g ev ∧ OwnE h (fun b => O b ∧ b ≠ K ∧ b ∉ blkOf ev) ev g.ents ∧ (∀ b ∈ blkOf ev, O b ∧ b ≠ K)
  self : O K
  old : ∀ b, O b → b < h.size
  inv : LogOK g

/-- The leader's term is at least that of every entry. -/
def LogTm (g : LogS) : Prop := 0 < g.leads → ∀ e ∈ g.ents, e.term ≤ g.leads

theorem votOK_len {n : Int} {c : List Int} (hv : votOK n c) : (c.length : Int) ≤ n := by
  have key : ∀ (j : Nat) (x : Int), c[j]? = some x → (j : Int) ≤ x := by
    intro j
    induction j with
    | zero => intro x hx; exact (hv.1 0 x hv.2 hx).1
    | succ j ih =>
      intro x hx
      have hj := (List.getElem?_eq_some_iff.1 hx).1
      obtain ⟨y, hy⟩ : ∃ y, c[j]? = some y := ⟨_, List.getElem?_eq_getElem (by omega)⟩
      have h1 := ih y hy
      have h2 := (hv.1 (j + 1) x hj hx).2.2 y (by omega) (by simpa using hy)
      omega
  have hp := hv.2
  obtain ⟨x, hx⟩ : ∃ x, c[c.length - 1]? = some x := ⟨_, List.getElem?_eq_getElem (by omega)⟩
  have h1 := key _ x hx
  have h2 := (hv.1 _ x (by omega) hx).2.1
  omega
theorem right_vot {n : Int} {e : Ent} (hr : rightE n e) (hn : n ≤ 5) : e.vot.length ≤ 5 := by
  rcases hr.2 with h | h | h
  · omega
  · omega
  · have := votOK_len h.2.2; omega
theorem valE.vot {n : Int} {l : List Ent} (hv : valE n l) (hn : n ≤ 5) : ∀ e ∈ l, e.vot.length ≤ 100000 := by
  intro e he
  obtain ⟨j, hj⟩ := List.getElem?_of_mem he
  have := right_vot (hv.1 j e (List.getElem?_eq_some_iff.1 hj).1 hj).1 hn
  omega
theorem valE.right {n : Int} {l : List Ent} (hv : valE n l) {e : Ent} (he : e ∈ l) : rightE n e := by
  obtain ⟨j, hj⟩ := List.getElem?_of_mem he
  exact (hv.1 j e (List.getElem?_eq_some_iff.1 hj).1 hj).1

def termAt (l : List Ent) (j : Nat) : Int := if j = 0 then 0 else (l[j - 1]?.map Ent.term).getD 0
theorem termAt_get {l : List Ent} {j : Nat} {e : Ent} (he : l[j]? = some e) : termAt l (j + 1) = e.term := by simp [termAt, he]

section
variable {h h' : Heap} {K : Nat} {g : LogS} {O : Nat → Prop}
theorem LogAt.stp {fp : List Nat} (x : Stp fp h h') (k : LogAt h K g O) (hO : ∀ b, O b → b ∉ fp) : LogAt h' K g O := by
  obtain ⟨L, ev, h1, h2, h3, h4⟩ := k.ok
  exact ⟨⟨L, ev, x.blk h1 (hO K k.self), h2, h3.stp x (fun b hb => hO b hb.1) (fun b hb => hO b (h4 b hb).1), h4⟩, k.self, fun b hb => by have := k.old b hb; have := x.size; omega, k.inv⟩
theorem LogAt.grow (x : Stp [] h h') (k : LogAt h K g O) : LogAt h' K g O := k.stp x (by simp)
theorem LogAt.fp {O' : Nat → Prop} (x : FP O' h h') (k : LogAt h K g O) (hO : ∀ b, O b → ¬ O' b) : LogAt h' K g O := by
  obtain ⟨fp, s, hs⟩ := x.list
  exact k.stp s (fun b hb hm => hO b hb (hs b hm))
theorem LogAt.mono {O' : Nat → Prop} (hm : ∀ b, O b → O' b) (hold : ∀ b, O' b → b < h.size) (k : LogAt h K g O) : LogAt h K g O' := by
  obtain ⟨L, ev, h1, h2, h3, h4⟩ := k.ok
  exact ⟨⟨L, ev, h1, h2, h3.mono (fun b hb => ⟨hm b hb.1, hb.2⟩) (fun b hb hf => hf.2.2 hb), fun b hb => ⟨hm b (h4 b hb).1, (h4 b hb).2⟩⟩, hm K k.self, hold, k.inv⟩
theorem LogAt.len (k : LogAt h K g O) : g.ents.length ≤ 1024 := k.inv.val.2
theorem LogAt.rd (k : LogAt h K g O) : ∃ p cap, Cel h ⟨K, 0, none⟩ (.int .i64 g.n) ∧ Cel h ⟨K, 1, none⟩ (.int .i64 g.i) ∧ Cel h ⟨K, 2, none⟩ (.slice p g.ents.length cap) ∧ Cel h ⟨K, 3, none⟩ (.int .i64 g.commit) ∧ Cel h ⟨K, 4, none⟩ (.int .i64 g.leads) ∧
    (∀ j, j < 5 → Cel h ⟨K, 5 + j * 2, none⟩ (.int .i64 (g.nx j)) ∧ Cel h ⟨K, 5 + j * 2 + 1, none⟩ (.int .i64 (g.mt j))) ∧ ents.R h O [.slice p g.ents.length cap] g.ents := by
  obtain ⟨L, ev, h1, h2, h3, h4⟩ := k.ok
  have hl := k.len
  obtain ⟨p, cap, rfl⟩ := h3.shape
  exact ⟨p, cap, h1.cel h2.n, h1.cel h2.i, h1.cel h2.e, h1.cel h2.c, h1.cel h2.l, fun j hj => ⟨h1.cel (h2.nx j hj), h1.cel (h2.mt j hj)⟩,
    Rp.mono _ (fun b hb => hb.elim (fun h => h.1) (fun h => (h4 b h).1)) (h3.slR (by omega))⟩
/-- The cells of the log itself are replaced. -/
theorem LogAt.upd {L' : List Value} {ev : Value} {g' : LogS} (k : LogAt h K g O) (h3 : OwnE h (fun b => O b ∧ b ≠ K ∧ b ∉ blkOf ev) ev g.ents) (h4 : ∀ b ∈ blkOf ev, O b ∧ b ≠ K) (hu : Upd h K 77 L' h') (hc : LogC L' g' ev) (he : g'.ents = g.ents) (ok : LogOK g') : LogAt h' K g' O := by
  refine ⟨⟨L', ev, hu.blk, hc, ?_, h4⟩, k.self, fun b hb => by have := k.old b hb; have := (hu.stp).size; omega, ok⟩
  rw [he]
  exact h3.stp hu.stp (fun b hb => by simpa using hb.2.1) (fun b hb => by simpa using (h4 b hb).2)
end

/-! ### Reading -/
theorem term_any {h : Heap} {K : Nat} {g : LogS} {O : Nat → Prop} (k : LogAt h K g O) {j : Nat} (hj : j ≤ g.ents.length) :
    CallsH Try.prog 31 #[.pointer (some ⟨K, 0, none⟩), .int .i64 j] h fun r h' => r = .int .i64 (termAt g.ents j) ∧ h' = h := by
  obtain ⟨p, cap, c0, c1, c2, c3, c4, cp, hr⟩ := k.rd
  have hl := k.len
  refine CallsH.of (l := [_, _]) Try.func31 rfl Try.ntmps31 Try.results31 rfl ?_
  cases j with
  | zero =>
    repeat' (first | (refine St.d ?_; first | (refine dk 0 ?_; refine St.move rfl ?_) | (refine dk 1 ?_; refine St.assign rfl ?_) | (refine dk 12 ?_; first | refine St.eql rfl rfl ?_ | refine St.eql_pnil pg rfl rfl rfl rfl ?_ | refine St.eql_snil pg rfl rfl rfl rfl ?_ | refine St.beql pg rfl rfl rfl rfl ?_ | fail)) | (refine OW.d ?_; refine dk 0 ?_; refine OW.step (gd_none rfl) rfl ?_) | (refine CW.d ?_; first | (refine dk 0 ?_; refine CW.seq ?_) | (refine dk 1 ?_; refine CW.region ?_) | (refine dk 3 ?_; first | refine CW.cond_true rfl (by (first | rfl | assumption | exact decide_eq_true (by first | assumption | omega) | exact decide_eq_false (by first | assumption | exact not_not_intro (by assumption) | omega) | fail)) ?_ | refine CW.cond_false rfl (by (first | rfl | assumption | exact decide_eq_true (by first | assumption | omega) | exact decide_eq_false (by first | assumption | exact not_not_intro (by assumption) | omega) | fail)) ?_ | (refine CW.cond_dnot rfl ?_ ?_ <;> intro _ <;> try (exfalso; omega)) | (refine CW.cond_dec rfl ?_ ?_ <;> intro _ <;> try (exfalso; omega)) | (refine CW.cond rfl ?_ ?_ <;> intro _) | fail) | (refine dk 5 ?_; refine CW.ret ?_)) | refine OW.nil ?_ | refine PK.code_normal ?_ | refine PK.code_ret ?_ | refine PK.nil_ret ?_ | fail | fail)
    exact ⟨_, ResOK.one rfl, rfl, rfl⟩
  | succ j =>
    obtain ⟨e, he⟩ : ∃ e, g.ents[j]? = some e := ⟨_, List.getElem?_eq_getElem (by omega)⟩
    obtain ⟨b, o, q, qc, rfl, _, hc, hk, _, hg⟩ := ents_at hr he
    rw [termAt_get he]
    repeat' (first | (refine St.d ?_; first | (refine dk 0 ?_; refine St.move rfl ?_) | (refine dk 4 ?_; first | refine St.fieldAddr0 pg rfl rfl rfl rfl ?_ | refine St.fieldAddr pg rfl rfl rfl rfl ?_ | fail) | (refine dk 2 ?_; first | refine St.load pg rfl rfl rfl (by (first | assumption | exact Blk.cel (by (repeat (first | assumption | exact New.blk (by assumption) | exact Upd.blk (by assumption) | (apply New.old; assumption) | (apply Upd.keep; assumption; (focus (first | assumption | exact Ne.symm (by assumption) | omega | (intro hne; simp only at hne; omega)))) | (apply Stp.blk0; assumption) | (apply Stp.blk1; assumption; (focus (first | assumption | exact Ne.symm (by assumption) | omega | (intro hne; simp only at hne; omega))))))) (by rfl) | exact Cels.fld (by assumption) (by rfl) | exact Cels.fld0 (by assumption) (by rfl) | (repeat (first | assumption | (apply New.oldc; assumption) | (apply Upd.keepc; assumption; (focus (first | assumption | exact Ne.symm (by assumption) | omega | (intro hne; simp only at hne; omega)))) | (apply Stp.cel0; assumption))))) (by first | exact List.not_mem_nil | assumption) rfl ?_ | refine St.loadS pg rfl rfl rfl (by first | assumption | exact Blk.cels0 (by (repeat (first | assumption | exact New.blk (by assumption) | exact Upd.blk (by assumption) | (apply New.old; assumption) | (apply Upd.keep; assumption; (focus (first | assumption | exact Ne.symm (by assumption) | omega | (intro hne; simp only at hne; omega)))) | (apply Stp.blk0; assumption) | (apply Stp.blk1; assumption; (focus (first | assumption | exact Ne.symm (by assumption) | omega | (intro hne; simp only at hne; omega))))))) | (repeat (first | assumption | (apply Cels.newc; assumption) | (apply Cels.stpc; assumption) | (apply Cels.updc; assumption; (focus (first | assumption | exact Ne.symm (by assumption) | omega | (intro hne; simp only at hne; omega))))))) (by first | exact List.not_mem_nil | assumption) rfl rfl ?_ | fail) | (refine dk 1 ?_; refine St.assign rfl ?_) | (refine dk 5 ?_; refine St.nilCheck rfl ?_) | (refine dk 12 ?_; first | refine St.eql rfl rfl ?_ | refine St.eql_pnil pg rfl rfl rfl rfl ?_ | refine St.eql_snil pg rfl rfl rfl rfl ?_ | refine St.beql pg rfl rfl rfl rfl ?_ | fail) | (refine dk 19 ?_; refine St.sub rfl rfl (by omega) ?_)) | (refine OW.d ?_; refine dk 0 ?_; refine OW.step (gd_none rfl) rfl ?_) | (refine CW.d ?_; first | (refine dk 0 ?_; refine CW.seq ?_) | (refine dk 1 ?_; refine CW.region ?_) | (refine dk 3 ?_; first | refine CW.cond_true rfl (by (first | rfl | assumption | exact decide_eq_true (by first | assumption | omega) | exact decide_eq_false (by first | assumption | exact not_not_intro (by assumption) | omega) | fail)) ?_ | refine CW.cond_false rfl (by (first | rfl | assumption | exact decide_eq_true (by first | assumption | omega) | exact decide_eq_false (by first | assumption | exact not_not_intro (by assumption) | omega) | fail)) ?_ | (refine CW.cond_dnot rfl ?_ ?_ <;> intro _ <;> try (exfalso; omega)) | (refine CW.cond_dec rfl ?_ ?_ <;> intro _ <;> try (exfalso; omega)) | (refine CW.cond rfl ?_ ?_ <;> intro _) | fail) | (refine dk 4 ?_; refine CW.skip ?_)) | refine OW.nil ?_ | refine PK.code_normal ?_ | fail | fail)
    (refine St.d ?_; refine dk 10 ?_; first | refine St.indexAddr1 pg rfl rfl rfl rfl rfl rfl (i := j) (by omega) (by omega) ?_ | refine St.indexAddr pg rfl rfl rfl rfl rfl (i := j) (by omega) (by omega) ?_ | refine St.indexAddrA pg rfl rfl rfl rfl rfl (i := j) (by omega) (by omega) ?_)
    repeat' (first | (refine St.d ?_; first | (refine dk 4 ?_; first | refine St.fieldAddr0 pg rfl rfl rfl rfl ?_ | refine St.fieldAddr pg rfl rfl rfl rfl ?_ | fail) | (refine dk 2 ?_; first | refine St.load pg rfl rfl rfl (by (first | assumption | exact Blk.cel (by (repeat (first | assumption | exact New.blk (by assumption) | exact Upd.blk (by assumption) | (apply New.old; assumption) | (apply Upd.keep; assumption; (focus (first | assumption | exact Ne.symm (by assumption) | omega | (intro hne; simp only at hne; omega)))) | (apply Stp.blk0; assumption) | (apply Stp.blk1; assumption; (focus (first | assumption | exact Ne.symm (by assumption) | omega | (intro hne; simp only at hne; omega))))))) (by rfl) | exact Cels.fld (by assumption) (by rfl) | exact Cels.fld0 (by assumption) (by rfl) | (repeat (first | assumption | (apply New.oldc; assumption) | (apply Upd.keepc; assumption; (focus (first | assumption | exact Ne.symm (by assumption) | omega | (intro hne; simp only at hne; omega)))) | (apply Stp.cel0; assumption))))) (by first | exact List.not_mem_nil | assumption) rfl ?_ | refine St.loadS pg rfl rfl rfl (by first | assumption | exact Blk.cels0 (by (repeat (first | assumption | exact New.blk (by assumption) | exact Upd.blk (by assumption) | (apply New.old; assumption) | (apply Upd.keep; assumption; (focus (first | assumption | exact Ne.symm (by assumption) | omega | (intro hne; simp only at hne; omega)))) | (apply Stp.blk0; assumption) | (apply Stp.blk1; assumption; (focus (first | assumption | exact Ne.symm (by assumption) | omega | (intro hne; simp only at hne; omega))))))) | (repeat (first | assumption | (apply Cels.newc; assumption) | (apply Cels.stpc; assumption) | (apply Cels.updc; assumption; (focus (first | assumption | exact Ne.symm (by assumption) | omega | (intro hne; simp only at hne; omega))))))) (by first | exact List.not_mem_nil | assumption) rfl rfl ?_ | fail) | (refine dk 1 ?_; refine St.assign rfl ?_)) | (refine OW.d ?_; refine dk 0 ?_; refine OW.step (gd_none rfl) rfl ?_) | (refine CW.d ?_; first | (refine dk 5 ?_; refine CW.ret ?_)) | refine OW.nil ?_ | refine PK.code_normal ?_ | refine PK.nil_ret ?_ | fail | fail)
    exact ⟨_, ResOK.one rfl, rfl, rfl⟩
theorem commit_any {h : Heap} {K : Nat} {g : LogS} {O : Nat → Prop} (k : LogAt h K g O) :
    CallsH Try.prog 20 #[.pointer (some ⟨K, 0, none⟩)] h fun r h' => r = .int .i64 g.commit ∧ h' = h := by
  obtain ⟨p, cap, c0, c1, c2, c3, c4, cp, hr⟩ := k.rd
  refine CallsH.of (l := [_]) Try.func20 rfl Try.ntmps20 Try.results20 rfl ?_
  repeat' (first | (refine St.d ?_; first | (refine dk 0 ?_; refine St.move rfl ?_) | (refine dk 4 ?_; first | refine St.fieldAddr0 pg rfl rfl rfl rfl ?_ | refine St.fieldAddr pg rfl rfl rfl rfl ?_ | fail) | (refine dk 2 ?_; first | refine St.load pg rfl rfl rfl (by (first | assumption | exact Blk.cel (by (repeat (first | assumption | exact New.blk (by assumption) | exact Upd.blk (by assumption) | (apply New.old; assumption) | (apply Upd.keep; assumption; (focus (first | assumption | exact Ne.symm (by assumption) | omega | (intro hne; simp only at hne; omega)))) | (apply Stp.blk0; assumption) | (apply Stp.blk1; assumption; (focus (first | assumption | exact Ne.symm (by assumption) | omega | (intro hne; simp only at hne; omega))))))) (by rfl) | exact Cels.fld (by assumption) (by rfl) | exact Cels.fld0 (by assumption) (by rfl) | (repeat (first | assumption | (apply New.oldc; assumption) | (apply Upd.keepc; assumption; (focus (first | assumption | exact Ne.symm (by assumption) | omega | (intro hne; simp only at hne; omega)))) | (apply Stp.cel0; assumption))))) (by first | exact List.not_mem_nil | assumption) rfl ?_ | refine St.loadS pg rfl rfl rfl (by first | assumption | exact Blk.cels0 (by (repeat (first | assumption | exact New.blk (by assumption) | exact Upd.blk (by assumption) | (apply New.old; assumption) | (apply Upd.keep; assumption; (focus (first | assumption | exact Ne.symm (by assumption) | omega | (intro hne; simp only at hne; omega)))) | (apply Stp.blk0; assumption) | (apply Stp.blk1; assumption; (focus (first | assumption | exact Ne.symm (by assumption) | omega | (intro hne; simp only at hne; omega))))))) | (repeat (first | assumption | (apply Cels.newc; assumption) | (apply Cels.stpc; assumption) | (apply Cels.updc; assumption; (focus (first | assumption | exact Ne.symm (by assumption) | omega | (intro hne; simp only at hne; omega))))))) (by first | exact List.not_mem_nil | assumption) rfl rfl ?_ | fail) | (refine dk 1 ?_; refine St.assign rfl ?_) | (refine dk 5 ?_; refine St.nilCheck rfl ?_)) | (refine OW.d ?_; refine dk 0 ?_; refine OW.step (gd_none rfl) rfl ?_) | (refine CW.d ?_; first | (refine dk 0 ?_; refine CW.seq ?_) | (refine dk 1 ?_; refine CW.region ?_) | (refine dk 5 ?_; refine CW.ret ?_)) | refine OW.nil ?_ | refine PK.code_normal ?_ | refine PK.nil_ret ?_ | fail | fail)
  exact ⟨_, ResOK.one rfl, rfl, rfl⟩
theorem leads_any {h : Heap} {K : Nat} {g : LogS} {O : Nat → Prop} (k : LogAt h K g O) :
    CallsH Try.prog 21 #[.pointer (some ⟨K, 0, none⟩)] h fun r h' => r = .int .i64 g.leads ∧ h' = h := by
  obtain ⟨p, cap, c0, c1, c2, c3, c4, cp, hr⟩ := k.rd
  refine CallsH.of (l := [_]) Try.func21 rfl Try.ntmps21 Try.results21 rfl ?_
  repeat' (first | (refine St.d ?_; first | (refine dk 0 ?_; refine St.move rfl ?_) | (refine dk 4 ?_; first | refine St.fieldAddr0 pg rfl rfl rfl rfl ?_ | refine St.fieldAddr pg rfl rfl rfl rfl ?_ | fail) | (refine dk 2 ?_; first | refine St.load pg rfl rfl rfl (by (first | assumption | exact Blk.cel (by (repeat (first | assumption | exact New.blk (by assumption) | exact Upd.blk (by assumption) | (apply New.old; assumption) | (apply Upd.keep; assumption; (focus (first | assumption | exact Ne.symm (by assumption) | omega | (intro hne; simp only at hne; omega)))) | (apply Stp.blk0; assumption) | (apply Stp.blk1; assumption; (focus (first | assumption | exact Ne.symm (by assumption) | omega | (intro hne; simp only at hne; omega))))))) (by rfl) | exact Cels.fld (by assumption) (by rfl) | exact Cels.fld0 (by assumption) (by rfl) | (repeat (first | assumption | (apply New.oldc; assumption) | (apply Upd.keepc; assumption; (focus (first | assumption | exact Ne.symm (by assumption) | omega | (intro hne; simp only at hne; omega)))) | (apply Stp.cel0; assumption))))) (by first | exact List.not_mem_nil | assumption) rfl ?_ | refine St.loadS pg rfl rfl rfl (by first | assumption | exact Blk.cels0 (by (repeat (first | assumption | exact New.blk (by assumption) | exact Upd.blk (by assumption) | (apply New.old; assumption) | (apply Upd.keep; assumption; (focus (first | assumption | exact Ne.symm (by assumption) | omega | (intro hne; simp only at hne; omega)))) | (apply Stp.blk0; assumption) | (apply Stp.blk1; assumption; (focus (first | assumption | exact Ne.symm (by assumption) | omega | (intro hne; simp only at hne; omega))))))) | (repeat (first | assumption | (apply Cels.newc; assumption) | (apply Cels.stpc; assumption) | (apply Cels.updc; assumption; (focus (first | assumption | exact Ne.symm (by assumption) | omega | (intro hne; simp only at hne; omega))))))) (by first | exact List.not_mem_nil | assumption) rfl rfl ?_ | fail) | (refine dk 1 ?_; refine St.assign rfl ?_) | (refine dk 5 ?_; refine St.nilCheck rfl ?_)) | (refine OW.d ?_; refine dk 0 ?_; refine OW.step (gd_none rfl) rfl ?_) | (refine CW.d ?_; first | (refine dk 0 ?_; refine CW.seq ?_) | (refine dk 1 ?_; refine CW.region ?_) | (refine dk 5 ?_; refine CW.ret ?_)) | refine OW.nil ?_ | refine PK.code_normal ?_ | refine PK.nil_ret ?_ | fail | fail)
  exact ⟨_, ResOK.one rfl, rfl, rfl⟩
theorem last_any {h : Heap} {K : Nat} {g : LogS} {O : Nat → Prop} (k : LogAt h K g O) :
    CallsH Try.prog 11 #[.pointer (some ⟨K, 0, none⟩)] h fun r h' => r = .tuple #[.int .i64 g.ents.length, .int .i64 (termAt g.ents g.ents.length)] ∧ h' = h := by
  obtain ⟨p, cap, c0, c1, c2, c3, c4, cp, hr⟩ := k.rd
  refine CallsH.of (l := [_]) Try.func11 rfl Try.ntmps11 Try.results11 rfl ?_
  repeat' (first | (refine St.d ?_; first | (refine dk 0 ?_; refine St.move rfl ?_) | (refine dk 4 ?_; first | refine St.fieldAddr0 pg rfl rfl rfl rfl ?_ | refine St.fieldAddr pg rfl rfl rfl rfl ?_ | fail) | (refine dk 2 ?_; first | refine St.load pg rfl rfl rfl (by (first | assumption | exact Blk.cel (by (repeat (first | assumption | exact New.blk (by assumption) | exact Upd.blk (by assumption) | (apply New.old; assumption) | (apply Upd.keep; assumption; (focus (first | assumption | exact Ne.symm (by assumption) | omega | (intro hne; simp only at hne; omega)))) | (apply Stp.blk0; assumption) | (apply Stp.blk1; assumption; (focus (first | assumption | exact Ne.symm (by assumption) | omega | (intro hne; simp only at hne; omega))))))) (by rfl) | exact Cels.fld (by assumption) (by rfl) | exact Cels.fld0 (by assumption) (by rfl) | (repeat (first | assumption | (apply New.oldc; assumption) | (apply Upd.keepc; assumption; (focus (first | assumption | exact Ne.symm (by assumption) | omega | (intro hne; simp only at hne; omega)))) | (apply Stp.cel0; assumption))))) (by first | exact List.not_mem_nil | assumption) rfl ?_ | refine St.loadS pg rfl rfl rfl (by first | assumption | exact Blk.cels0 (by (repeat (first | assumption | exact New.blk (by assumption) | exact Upd.blk (by assumption) | (apply New.old; assumption) | (apply Upd.keep; assumption; (focus (first | assumption | exact Ne.symm (by assumption) | omega | (intro hne; simp only at hne; omega)))) | (apply Stp.blk0; assumption) | (apply Stp.blk1; assumption; (focus (first | assumption | exact Ne.symm (by assumption) | omega | (intro hne; simp only at hne; omega))))))) | (repeat (first | assumption | (apply Cels.newc; assumption) | (apply Cels.stpc; assumption) | (apply Cels.updc; assumption; (focus (first | assumption | exact Ne.symm (by assumption) | omega | (intro hne; simp only at hne; omega))))))) (by first | exact List.not_mem_nil | assumption) rfl rfl ?_ | fail) | (refine dk 1 ?_; refine St.assign rfl ?_) | (refine dk 5 ?_; refine St.nilCheck rfl ?_) | (refine dk 23 ?_; first | refine St.call pg rfl rfl rfl ?_ | refine St.call0 pg rfl rfl rfl ?_ | refine St.callX pg rfl rfl rfl ?_ | fail) | (refine dk 11 ?_; refine St.len pg rfl rfl rfl ?_)) | (refine OW.d ?_; refine dk 0 ?_; refine OW.step (gd_none rfl) rfl ?_) | (refine CW.d ?_; first | (refine dk 0 ?_; refine CW.seq ?_) | (refine dk 1 ?_; refine CW.region ?_)) | refine OW.nil ?_ | refine PK.code_normal ?_ | refine RW.step rfl (gd_none rfl) rfl ?_ | (refine CW.d ?_; refine dk 2 ?_; refine CW.region_draw [] ord11 pg.mix (by kernel_rfl) (by kernel_rfl) ?_) | fail)
  refine (term_any k (Nat.le_refl _)).same ?_
  refine ⟨Stp.refl _, ?_⟩
  repeat' (first | (refine St.d ?_; first | (refine dk 1 ?_; refine St.assign rfl ?_)) | (refine OW.d ?_; refine dk 0 ?_; refine OW.step (gd_none rfl) rfl ?_) | (refine CW.d ?_; first | (refine dk 5 ?_; refine CW.ret ?_)) | refine PK.code_normal ?_ | refine PK.nil_ret ?_ | refine RW.done ?_ | refine RW.step rfl (gd_none rfl) rfl ?_ | (refine CW.d ?_; refine dk 2 ?_; refine CW.region_draw [] ord11 pg.mix (by kernel_rfl) (by kernel_rfl) ?_) | fail)
  exact ⟨_, ResOK.two rfl rfl, rfl, rfl⟩
def oth (g : LogS) (r : Int) : Prop := 0 ≤ r ∧ r < g.n ∧ r ≠ g.i
instance (g : LogS) (r : Int) : Decidable (oth g r) := inferInstanceAs (Decidable (_ ∧ _))
theorem other_any {h : Heap} {K : Nat} {g : LogS} {O : Nat → Prop} (k : LogAt h K g O) (r : Int) :
    CallsH Try.prog 33 #[.pointer (some ⟨K, 0, none⟩), .int .i64 r] h fun x h' => x = .bool (decide (oth g r)) ∧ h' = h := by
  obtain ⟨p, cap, c0, c1, c2, c3, c4, cp, hr⟩ := k.rd
  refine CallsH.of (l := [_, _]) Try.func33 rfl Try.ntmps33 Try.results33 rfl ?_
  repeat' (first | (refine St.d ?_; first | (refine dk 0 ?_; refine St.move rfl ?_) | (refine dk 4 ?_; first | refine St.fieldAddr0 pg rfl rfl rfl rfl ?_ | refine St.fieldAddr pg rfl rfl rfl rfl ?_ | fail) | (refine dk 2 ?_; first | refine St.load pg rfl rfl rfl (by (first | assumption | exact Blk.cel (by (repeat (first | assumption | exact New.blk (by assumption) | exact Upd.blk (by assumption) | (apply New.old; assumption) | (apply Upd.keep; assumption; (focus (first | assumption | exact Ne.symm (by assumption) | omega | (intro hne; simp only at hne; omega)))) | (apply Stp.blk0; assumption) | (apply Stp.blk1; assumption; (focus (first | assumption | exact Ne.symm (by assumption) | omega | (intro hne; simp only at hne; omega))))))) (by rfl) | exact Cels.fld (by assumption) (by rfl) | exact Cels.fld0 (by assumption) (by rfl) | (repeat (first | assumption | (apply New.oldc; assumption) | (apply Upd.keepc; assumption; (focus (first | assumption | exact Ne.symm (by assumption) | omega | (intro hne; simp only at hne; omega)))) | (apply Stp.cel0; assumption))))) (by first | exact List.not_mem_nil | assumption) rfl ?_ | refine St.loadS pg rfl rfl rfl (by first | assumption | exact Blk.cels0 (by (repeat (first | assumption | exact New.blk (by assumption) | exact Upd.blk (by assumption) | (apply New.old; assumption) | (apply Upd.keep; assumption; (focus (first | assumption | exact Ne.symm (by assumption) | omega | (intro hne; simp only at hne; omega)))) | (apply Stp.blk0; assumption) | (apply Stp.blk1; assumption; (focus (first | assumption | exact Ne.symm (by assumption) | omega | (intro hne; simp only at hne; omega))))))) | (repeat (first | assumption | (apply Cels.newc; assumption) | (apply Cels.stpc; assumption) | (apply Cels.updc; assumption; (focus (first | assumption | exact Ne.symm (by assumption) | omega | (intro hne; simp only at hne; omega))))))) (by first | exact List.not_mem_nil | assumption) rfl rfl ?_ | fail) | (refine dk 1 ?_; refine St.assign rfl ?_) | (refine dk 5 ?_; refine St.nilCheck rfl ?_) | (refine dk 6 ?_; first | refine St.pick_true rfl (by (first | rfl | assumption | exact decide_eq_true (by first | assumption | omega) | exact decide_eq_false (by first | assumption | exact not_not_intro (by assumption) | omega) | fail)) rfl ?_ | refine St.pick_false rfl (by (first | rfl | assumption | exact decide_eq_true (by first | assumption | omega) | exact decide_eq_false (by first | assumption | exact not_not_intro (by assumption) | omega) | fail)) rfl ?_ | fail) | (refine dk 13 ?_; first | refine St.neq rfl rfl ?_ | refine St.neq_pnil pg rfl rfl rfl rfl ?_ | refine St.bneq pg rfl rfl rfl rfl ?_ | fail) | (refine dk 14 ?_; refine St.lss rfl rfl ?_) | (refine dk 17 ?_; refine St.geq rfl rfl ?_)) | (refine OW.d ?_; first | (refine dk 0 ?_; refine OW.step (gd_none rfl) rfl ?_) | (refine dk 1 ?_; first | refine OW.step (gd_yes rfl rfl rfl (by (first | rfl | assumption | exact decide_eq_true (by first | assumption | omega) | exact decide_eq_false (by first | assumption | exact not_not_intro (by assumption) | omega) | fail))) rfl ?_ | refine OW.pass (gd_no rfl rfl rfl (by (first | rfl | assumption | exact decide_eq_true (by first | assumption | omega) | exact decide_eq_false (by first | assumption | exact not_not_intro (by assumption) | omega) | fail))) rfl ?_ | refine OW.pass (gd_undef rfl rfl rfl) rfl ?_ | (refine OW.split_dnot rfl rfl rfl ?_ ?_ <;> intro _ <;> try (exfalso; omega)) | (refine OW.split_dec rfl rfl rfl ?_ ?_ <;> intro _ <;> try (exfalso; omega)) | (refine OW.split rfl rfl rfl ?_ ?_ <;> intro _) | fail)) | (refine CW.d ?_; first | (refine dk 0 ?_; refine CW.seq ?_) | (refine dk 1 ?_; refine CW.region ?_) | (refine dk 5 ?_; refine CW.ret ?_)) | refine OW.nil ?_ | refine PK.code_normal ?_ | refine PK.nil_ret ?_ | fail | fail)
  all_goals
    refine ⟨_, ResOK.one rfl, ?_, rfl⟩
    congr 1
    (first | exact (decide_eq_true (by unfold oth; omega)).symm | exact (decide_eq_false (by unfold oth; omega)).symm | exact decide_eq_decide.2 (by unfold oth; omega) | fail)
theorem index_any {h : Heap} (r : Int) :
    CallsH Try.prog 41 #[.int .i64 r] h fun x h' => x = .bool (decide (0 ≤ r ∧ r ≤ 1024)) ∧ h' = h := by
  refine CallsH.of (l := [_]) Try.func41 rfl Try.ntmps41 Try.results41 rfl ?_
  repeat' (first | (refine St.d ?_; first | (refine dk 0 ?_; refine St.move rfl ?_) | (refine dk 1 ?_; refine St.assign rfl ?_) | (refine dk 6 ?_; first | refine St.pick_true rfl (by (first | rfl | assumption | exact decide_eq_true (by first | assumption | omega) | exact decide_eq_false (by first | assumption | exact not_not_intro (by assumption) | omega) | fail)) rfl ?_ | refine St.pick_false rfl (by (first | rfl | assumption | exact decide_eq_true (by first | assumption | omega) | exact decide_eq_false (by first | assumption | exact not_not_intro (by assumption) | omega) | fail)) rfl ?_ | fail) | (refine dk 17 ?_; refine St.geq rfl rfl ?_) | (refine dk 15 ?_; refine St.leq rfl rfl ?_)) | (refine OW.d ?_; first | (refine dk 0 ?_; refine OW.step (gd_none rfl) rfl ?_) | (refine dk 1 ?_; first | refine OW.step (gd_yes rfl rfl rfl (by (first | rfl | assumption | exact decide_eq_true (by first | assumption | omega) | exact decide_eq_false (by first | assumption | exact not_not_intro (by assumption) | omega) | fail))) rfl ?_ | refine OW.pass (gd_no rfl rfl rfl (by (first | rfl | assumption | exact decide_eq_true (by first | assumption | omega) | exact decide_eq_false (by first | assumption | exact not_not_intro (by assumption) | omega) | fail))) rfl ?_ | refine OW.pass (gd_undef rfl rfl rfl) rfl ?_ | (refine OW.split_dnot rfl rfl rfl ?_ ?_ <;> intro _ <;> try (exfalso; omega)) | (refine OW.split_dec rfl rfl rfl ?_ ?_ <;> intro _ <;> try (exfalso; omega)) | (refine OW.split rfl rfl rfl ?_ ?_ <;> intro _) | fail)) | (refine CW.d ?_; first | (refine dk 0 ?_; refine CW.seq ?_) | (refine dk 1 ?_; refine CW.region ?_) | (refine dk 5 ?_; refine CW.ret ?_)) | refine OW.nil ?_ | refine PK.code_normal ?_ | refine PK.nil_ret ?_ | fail | fail)
  all_goals
    refine ⟨_, ResOK.one rfl, ?_, rfl⟩
    congr 1
    (first | exact (decide_eq_true (by skip; omega)).symm | exact (decide_eq_false (by skip; omega)).symm | exact decide_eq_decide.2 (by skip; omega) | fail)
/-- The entries from an index on, as a copy. -/
theorem entries_any {h : Heap} {K : Nat} {g : LogS} {O : Nat → Prop} (k : LogAt h K g O) {r : Int} (hr1 : rng r) :
    CallsH Try.prog 16 #[.pointer (some ⟨K, 0, none⟩), .int .i64 r] h fun x h' => OwnE h' (fun b => h.size ≤ b ∧ b < h'.size ∧ b ∉ blkOf x) x (g.ents.drop (r.toNat - 1)) ∧ Stp [] h h' ∧ ∀ b ∈ blkOf x, h.size ≤ b := by
  obtain ⟨p, cap, c0, c1, c2, c3, c4, cp, hr⟩ := k.rd
  have hl := k.len
  have hc : g.ents.length ≤ cap := by
    rcases sliceR_cases hr with ⟨h1, _⟩ | ⟨b, o, cap', h1, h2, _⟩
    · rw [h1]; exact Nat.zero_le _
    · simp only [List.cons.injEq, Value.slice.injEq, and_true] at h1
      omega
  refine CallsH.of (l := [_, _]) Try.func16 rfl Try.ntmps16 Try.results16 rfl ?_
  unfold rng at hr1
  repeat' (first | (refine St.d ?_; first | (refine dk 0 ?_; refine St.move rfl ?_) | (refine dk 4 ?_; first | refine St.fieldAddr0 pg rfl rfl rfl rfl ?_ | refine St.fieldAddr pg rfl rfl rfl rfl ?_ | fail) | (refine dk 2 ?_; first | refine St.load pg rfl rfl rfl (by (first | assumption | exact Blk.cel (by (repeat (first | assumption | exact New.blk (by assumption) | exact Upd.blk (by assumption) | (apply New.old; assumption) | (apply Upd.keep; assumption; (focus (first | assumption | exact Ne.symm (by assumption) | omega | (intro hne; simp only at hne; omega)))) | (apply Stp.blk0; assumption) | (apply Stp.blk1; assumption; (focus (first | assumption | exact Ne.symm (by assumption) | omega | (intro hne; simp only at hne; omega))))))) (by rfl) | exact Cels.fld (by assumption) (by rfl) | exact Cels.fld0 (by assumption) (by rfl) | (repeat (first | assumption | (apply New.oldc; assumption) | (apply Upd.keepc; assumption; (focus (first | assumption | exact Ne.symm (by assumption) | omega | (intro hne; simp only at hne; omega)))) | (apply Stp.cel0; assumption))))) (by first | exact List.not_mem_nil | assumption) rfl ?_ | refine St.loadS pg rfl rfl rfl (by first | assumption | exact Blk.cels0 (by (repeat (first | assumption | exact New.blk (by assumption) | exact Upd.blk (by assumption) | (apply New.old; assumption) | (apply Upd.keep; assumption; (focus (first | assumption | exact Ne.symm (by assumption) | omega | (intro hne; simp only at hne; omega)))) | (apply Stp.blk0; assumption) | (apply Stp.blk1; assumption; (focus (first | assumption | exact Ne.symm (by assumption) | omega | (intro hne; simp only at hne; omega))))))) | (repeat (first | assumption | (apply Cels.newc; assumption) | (apply Cels.stpc; assumption) | (apply Cels.updc; assumption; (focus (first | assumption | exact Ne.symm (by assumption) | omega | (intro hne; simp only at hne; omega))))))) (by first | exact List.not_mem_nil | assumption) rfl rfl ?_ | fail) | (refine dk 1 ?_; refine St.assign rfl ?_) | (refine dk 5 ?_; refine St.nilCheck rfl ?_) | (refine dk 11 ?_; refine St.len pg rfl rfl rfl ?_) | (refine dk 19 ?_; refine St.sub rfl rfl (by omega) ?_) | (refine dk 26 ?_; refine St.imin rfl rfl ?_) | (refine dk 27 ?_; refine St.imax rfl rfl ?_)) | (refine OW.d ?_; refine dk 0 ?_; refine OW.step (gd_none rfl) rfl ?_) | (refine CW.d ?_; first | (refine dk 0 ?_; refine CW.seq ?_) | (refine dk 1 ?_; refine CW.region ?_)) | refine OW.nil ?_ | refine PK.code_normal ?_ | refine RW.step rfl (gd_none rfl) rfl ?_ | (refine CW.d ?_; refine dk 2 ?_; refine CW.region_draw [] ord16 pg.mix (by kernel_rfl) (by kernel_rfl) ?_) | fail)
  refine St.d ?_
  refine dk 38 ?_
  refine St.sliceL (l' := min (r.toNat - 1) g.ents.length) pg rfl rfl rfl rfl rfl (by omega) (by omega) ?_
  repeat' (first | (refine St.d ?_; first | (refine dk 23 ?_; first | refine St.call pg rfl rfl rfl ?_ | refine St.call0 pg rfl rfl rfl ?_ | refine St.callX pg rfl rfl rfl ?_ | fail)) | (refine OW.d ?_; refine dk 0 ?_; refine OW.step (gd_none rfl) rfl ?_) | fail | refine RW.step rfl (gd_none rfl) rfl ?_ | (refine CW.d ?_; refine dk 2 ?_; refine CW.region_draw [] ord16 pg.mix (by kernel_rfl) (by kernel_rfl) ?_) | fail)
  have hsub := sliceR_sub (i := min (r.toNat - 1) g.ents.length) (j := g.ents.length) (mm := cap) (c' := cap - min (r.toNat - 1) g.ents.length) hr (by omega) (Nat.le_refl _) hc (by omega)
  have hde : (List.drop (min (r.toNat - 1) g.ents.length) g.ents).take (g.ents.length - min (r.toNat - 1) g.ents.length) = g.ents.drop (r.toNat - 1) := by
    rw [List.take_of_length_le (by simp)]
    by_cases hle : r.toNat - 1 ≤ g.ents.length
    · rw [Nat.min_eq_left hle]
    · rw [Nat.min_eq_right (by omega), List.drop_of_length_le (Nat.le_refl _), List.drop_of_length_le (by omega)]
  rw [hde] at hsub
  refine (clone_ents hsub (by simp; omega) (fun e he => k.inv.val.vot (by have := k.inv.n5; omega) e (List.mem_of_mem_drop he))).mono ?_
  rintro x h1 hx
  repeat' (first | (refine St.d ?_; first | (refine dk 1 ?_; refine St.assign rfl ?_)) | (refine OW.d ?_; refine dk 0 ?_; refine OW.step (gd_none rfl) rfl ?_) | (refine CW.d ?_; first | (refine dk 5 ?_; refine CW.ret ?_)) | refine PK.code_normal ?_ | refine PK.nil_ret ?_ | refine RW.done ?_ | refine RW.step rfl (gd_none rfl) rfl ?_ | (refine CW.d ?_; refine dk 2 ?_; refine CW.region_draw [] ord16 pg.mix (by kernel_rfl) (by kernel_rfl) ?_) | fail)
  exact ⟨_, ResOK.one rfl, hx⟩
end Go.Proofs.Ytdoefbnjehngmaa
