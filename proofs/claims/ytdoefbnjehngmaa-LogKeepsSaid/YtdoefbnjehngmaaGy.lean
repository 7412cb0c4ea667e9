/- Calls of package replog as arguments, and the contract of the reference's Few; conditions: the lists lie in the heap. -/
import Derived.Test.YtdoefbnjehngmaaGe
import Derived.Test.YtdoefbnjehngmaaGu
namespace Go.Proofs.Ytdoefbnjehngmaa
open Go Go.CF
set_option maxRecDepth 20000

structure Act43 where
  kind : Int
  num : Int
  ent : Ent
  msg : Msg
  z : Zs
  vot : List Int
def actV (a : Act43) (we wm wv : Value) : List Value := .int .i64 a.kind :: .int .i64 a.num :: (entV a.ent we ++ (msgV a.msg a.z wm ++ [wv]))
/-- A call that is read. -/
def Rp.act : Rp Act43 where
  sz := 27
  R := fun h F cs a => ∃ we wm wv, cs = actV a we wm wv ∧ CkV h we a.ent.vot ∧ (∀ b ∈ rdOf we, F b) ∧ a.ent.rg ∧ a.z.ok ∧ ents.R h F [wm] a.msg.ents ∧ a.msg.rg ∧ CkV h wv a.vot ∧ (∀ b ∈ rdOf wv, F b) ∧ rng a.kind ∧ rng a.num
  len := by rintro _ _ _ _ ⟨we, wm, wv, rfl, _⟩; rfl
  one := by
    rintro _ _ _ _ ⟨we, wm, wv, rfl, hk, _, _, hz, hm, hg, hv, _⟩ u hu
    have h1 := ents.one hm wm (by simp)
    obtain ⟨p, cap, rfl⟩ := hk.s.sl.shape
    obtain ⟨p2, cap2, rfl⟩ := hv.s.sl.shape
    obtain ⟨o1, o2, o3, o4, o5, o6, o7, o8, o9⟩ := hz
    simp only [actV, entV, msgV, List.mem_cons, List.mem_append, List.not_mem_nil, or_false] at hu
    rcases hu with rfl | rfl | (rfl | rfl | rfl | rfl | rfl | rfl) | (rfl | rfl | rfl | rfl | rfl | rfl | rfl | rfl | rfl | rfl | rfl | rfl | rfl | rfl | rfl | rfl | rfl | rfl) | rfl <;> first | rfl | assumption
  stp := fun x hn ⟨we, wm, wv, e, hk, hF, hg, hz, hm, hmg, hv, hvF, h1, h2⟩ => ⟨we, wm, wv, e, hk.stp x (fun b hb => hn b (hF b hb)), hF, hg, hz, ents.stp x hn hm, hmg, hv.stp x (fun b hb => hn b (hvF b hb)), hvF, h1, h2⟩
  mono := fun hmn ⟨we, wm, wv, e, hk, hF, hg, hz, hm, hmg, hv, hvF, h1, h2⟩ => ⟨we, wm, wv, e, hk, fun b hb => hmn b (hF b hb), hg, hz, ents.mono hmn hm, hmg, hv, fun b hb => hmn b (hvF b hb), h1, h2⟩
  lt := fun ⟨we, wm, wv, e, hk, hF, hg, hz, hm, hmg, hv, hvF, h1, h2⟩ => ⟨we, wm, wv, e, hk, fun b hb => ⟨hF b hb, hk.s.sl.lt b hb⟩, hg, hz, ents.lt hm, hmg, hv, fun b hb => ⟨hvF b hb, hv.s.sl.lt b hb⟩, h1, h2⟩
abbrev ActT := Int × Int × Ent × (Msg × Zs) × List Int × Unit
def Rp.actT : Rp ActT := (Rp.int .i64).pair ((Rp.int .i64).pair (Rp.ent.pair (Rp.msg.pair ((Rp.int .i64).slice.pair Rp.unit))))
theorem rdActT : RdT Try.prog 62 Rp.actT := RdT.struct Try.underlying62 rfl (by kernel_rfl) (RdF.cons rfl rdInt rfl (RdF.cons rfl rdInt rfl (RdF.cons rfl rdEnt rfl (RdF.cons rfl rdMsg rfl (RdF.cons rfl rdInts rfl RdF.nil)))))
theorem actT_R {h : Heap} {F : Nat → Prop} {cs : List Value} {a : ActT} (hr : Rp.actT.R h F cs a) : ∃ x, Rp.act.R h F cs x := by
  obtain ⟨kind, num, e, ⟨m, z⟩, vot, _⟩ := a
  obtain ⟨c1, _, rfl, ⟨rfl, w1⟩, c2, _, rfl, ⟨rfl, w2⟩, c3, _, rfl, he, c4, _, rfl, hm, c5, _, rfl, hv, rfl⟩ := hr
  obtain ⟨we, rfl, g1, g2, g3⟩ := entR he
  obtain ⟨wm, rfl, g4, g5, g6⟩ := hm
  obtain ⟨wv, rfl, g7, g8⟩ := CkV.ofR hv
  exact ⟨⟨kind, num, e, m, z, vot⟩, we, wm, wv, rfl, g1, g2, g3, g4, g5, g6, g7, g8, wf_i64.1 w1, wf_i64.1 w2⟩
theorem rdAct : RdT Try.prog 62 Rp.act := ⟨rdActT.sz, fun h => by obtain ⟨a, ha⟩ := rdActT.rd h; exact actT_R ha⟩
theorem rdActs : RdT Try.prog 60 Rp.act.slice := RdT.slice Try.underlying60 (by kernel_rfl) rdAct (by decide)
theorem act_at {h : Heap} {F : Nat → Prop} {p : Option Addr} {len cap : Nat} {l : List Act43} (hs : Rp.act.slice.R h F [.slice p len cap] l) {i : Nat} {a : Act43} (hi : l[i]? = some a) :
    ∃ b o pe ce pm cm pv cv, p = some ⟨b, o, none⟩ ∧ len = l.length ∧ Cels h ⟨b, o + i * 27, none⟩ (actV a (.slice pe a.ent.vot.length ce) (.slice pm a.msg.ents.length cm) (.slice pv a.vot.length cv)) ∧
      CkV h (.slice pe a.ent.vot.length ce) a.ent.vot ∧ (∀ b ∈ rdOf (.slice pe a.ent.vot.length ce), F b) ∧ a.ent.rg ∧ a.z.ok ∧ ents.R h F [.slice pm a.msg.ents.length cm] a.msg.ents ∧ a.msg.rg ∧ CkV h (.slice pv a.vot.length cv) a.vot ∧ (∀ b ∈ rdOf (.slice pv a.vot.length cv), F b) ∧ rng a.kind ∧ rng a.num := by
  have hil := (List.getElem?_eq_some_iff.1 hi).1
  rcases sliceR_cases hs with ⟨h1, _⟩ | ⟨b, o, cap', h1, h2, _, h3, h4⟩
  · rw [h1] at hil; simp at hil
  simp only [List.cons.injEq, Value.slice.injEq, and_true] at h1
  obtain ⟨rfl, rfl, rfl⟩ := h1
  obtain ⟨row, hr, hc⟩ := sliceR_cels hs hi
  obtain ⟨we, wm, wv, rfl, g1, g2, g3, g4, g5, g6, g7, g8, g9, g10⟩ := hr
  obtain ⟨pe, ce, rfl⟩ := g1.s.sl.shape
  obtain ⟨pv, cv, rfl⟩ := g7.s.sl.shape
  obtain ⟨pm, cm, e⟩ := sliceR_shape g5
  simp only [List.cons.injEq, and_true] at e
  subst e
  exact ⟨b, o, pe, ce, pm, cm, pv, cv, rfl, rfl, hc, g1, g2, g3, g4, g5, g6, g7, g8, g9, g10⟩

structure FewA (a : Act43) : Prop where
  v : a.vot.length ≤ 8
  e : a.ent.vot.length ≤ 8
  m : a.msg.ents.length ≤ 40
  mv : ∀ e ∈ a.msg.ents, e.vot.length ≤ 8
structure FewL (l : List Act43) (es : List Ent) : Prop where
  n : l.length ≤ 40
  a : ∀ a ∈ l, FewA a
  e : es.length ≤ 40
  v : ∀ e ∈ es, e.vot.length ≤ 8
set_option maxHeartbeats 2000000 in
theorem few_any {h : Heap} {F G : Nat → Prop} {v1 v2 : Value} {l : List Act43} {es : List Ent} (h1 : Rp.act.slice.R h F [v1] l) (h2 : ents.R h G [v2] es) :
    CallsH Try.prog 18 #[v1, v2] h fun r h' => (∃ x, r = .bool x ∧ (x = true → FewL l es)) ∧ h' = h := by
  have hlm := sliceR_len h1
  obtain ⟨p, cap, e0⟩ := sliceR_shape h1
  simp only [List.cons.injEq, and_true] at e0
  subst e0
  obtain ⟨p2, cap2, e0⟩ := sliceR_shape h2
  simp only [List.cons.injEq, and_true] at e0
  subst e0
  refine CallsH.of (l := [_, _]) Try.func18 rfl Try.ntmps18 Try.results18 rfl ?_
  repeat' (first | (refine St.d ?_; first | (refine dk 1 ?_; refine St.assign rfl ?_)) | (refine OW.d ?_; first | (refine dk 0 ?_; refine OW.step (gd_none rfl) rfl ?_) | (refine dk 1 ?_; first | refine OW.step (gd_yes rfl rfl rfl (by (first | rfl | assumption | exact decide_eq_true (by first | assumption | omega) | exact decide_eq_false (by first | assumption | exact not_not_intro (by assumption) | omega) | fail))) rfl ?_ | refine OW.pass (gd_no rfl rfl rfl (by (first | rfl | assumption | exact decide_eq_true (by first | assumption | omega) | exact decide_eq_false (by first | assumption | exact not_not_intro (by assumption) | omega) | fail))) rfl ?_ | refine OW.pass (gd_undef rfl rfl rfl) rfl ?_ | (refine OW.split_dnot rfl rfl rfl ?_ ?_ <;> intro _ <;> try (exfalso; omega)) | (refine OW.split_dec rfl rfl rfl ?_ ?_ <;> intro _ <;> try (exfalso; omega)) | (refine OW.split rfl rfl rfl ?_ ?_ <;> intro _) | fail)) | (refine CW.d ?_; first | (refine dk 0 ?_; refine CW.seq ?_) | (refine dk 1 ?_; refine CW.region ?_) | (refine dk 7 ?_; refine CW.block ?_)) | refine OW.nil ?_ | refine PK.code_normal ?_ | fail | fail)
  refine CW.loop (fun i : Nat => [(0, .slice p l.length cap), (1, .slice p2 es.length cap2), (5, .int .i64 i)]) (fun i h' => h = h' ∧ i ≤ l.length ∧ ∀ a ∈ l.take i, FewA a) (fun i => l.length - i) 0 (by (repeat (first | exact trivial | refine ⟨rfl, ?_⟩))) ⟨rfl, Nat.zero_le _, by simp⟩ ?_
  rintro i _ ⟨rfl, hi, hall⟩
  by_cases hin : i < l.length
  · obtain ⟨a, ha⟩ : ∃ a, l[i]? = some a := ⟨_, List.getElem?_eq_getElem hin⟩
    obtain ⟨b, o, pe, ce, pm, cm, pv, cv, rfl, _, hc, hke, _, _, _, hm, _, hkv, _⟩ := act_at h1 ha
    simp only [actV, entV, msgV] at hc
    have hc2 : Cels h ⟨b, o + i * 27, none⟩ _ := hc
    simp only [List.cons_append, List.nil_append] at hc2
    clear hc
    have ce1 : Cel h ⟨b, o + i * ti62.size + 2 + 5, none⟩ (.slice pe a.ent.vot.length ce) := hc2.cell (j := 7) rfl
    have cm1 : Cel h ⟨b, o + i * ti62.size + 8 + 17, none⟩ (.slice pm a.msg.ents.length cm) := hc2.cell (j := 25) rfl
    repeat' (first | (refine St.d ?_; first | (refine dk 0 ?_; refine St.move rfl ?_) | (refine dk 4 ?_; first | refine St.fieldAddr0 pg rfl rfl rfl rfl ?_ | refine St.fieldAddr pg rfl rfl rfl rfl ?_ | fail) | (refine dk 2 ?_; first | refine St.load pg rfl rfl rfl (by (first | assumption | exact Blk.cel (by (repeat (first | assumption | exact New.blk (by assumption) | exact Upd.blk (by assumption) | (apply New.old; assumption) | (apply Upd.keep; assumption; (focus (first | assumption | exact Ne.symm (by assumption) | omega | (intro hne; simp only at hne; omega)))) | (apply Stp.blk0; assumption) | (apply Stp.blk1; assumption; (focus (first | assumption | exact Ne.symm (by assumption) | omega | (intro hne; simp only at hne; omega))))))) (by rfl) | exact Cels.fld (by assumption) (by rfl) | exact Cels.fld0 (by assumption) (by rfl) | (repeat (first | assumption | (apply New.oldc; assumption) | (apply Upd.keepc; assumption; (focus (first | assumption | exact Ne.symm (by assumption) | omega | (intro hne; simp only at hne; omega)))) | (apply Stp.cel0; assumption))))) (by first | exact List.not_mem_nil | assumption) rfl ?_ | refine St.loadS pg rfl rfl rfl (by first | assumption | exact Blk.cels0 (by (repeat (first | assumption | exact New.blk (by assumption) | exact Upd.blk (by assumption) | (apply New.old; assumption) | (apply Upd.keep; assumption; (focus (first | assumption | exact Ne.symm (by assumption) | omega | (intro hne; simp only at hne; omega)))) | (apply Stp.blk0; assumption) | (apply Stp.blk1; assumption; (focus (first | assumption | exact Ne.symm (by assumption) | omega | (intro hne; simp only at hne; omega))))))) | (repeat (first | assumption | (apply Cels.newc; assumption) | (apply Cels.stpc; assumption) | (apply Cels.updc; assumption; (focus (first | assumption | exact Ne.symm (by assumption) | omega | (intro hne; simp only at hne; omega))))))) (by first | exact List.not_mem_nil | assumption) rfl rfl ?_ | fail) | (refine dk 1 ?_; refine St.assign rfl ?_) | (refine dk 23 ?_; first | refine St.call pg rfl rfl rfl ?_ | refine St.call0 pg rfl rfl rfl ?_ | refine St.callX pg rfl rfl rfl ?_ | fail) | (refine dk 6 ?_; first | refine St.pick_true rfl (by (first | rfl | assumption | exact decide_eq_true (by first | assumption | omega) | exact decide_eq_false (by first | assumption | exact not_not_intro (by assumption) | omega) | fail)) rfl ?_ | refine St.pick_false rfl (by (first | rfl | assumption | exact decide_eq_true (by first | assumption | omega) | exact decide_eq_false (by first | assumption | exact not_not_intro (by assumption) | omega) | fail)) rfl ?_ | fail) | (refine dk 14 ?_; refine St.lss rfl rfl ?_) | (refine dk 10 ?_; first | refine St.indexAddr1 pg rfl rfl rfl rfl rfl rfl rfl (by first | omega | decide | exact Nat.succ_pos _ | (show 0 < _; omega)) ?_ | refine St.indexAddr pg rfl rfl rfl rfl rfl rfl (by first | omega | decide | exact Nat.succ_pos _ | (show 0 < _; omega)) ?_ | refine St.indexAddrA1 pg rfl rfl rfl rfl rfl rfl rfl (by first | omega | decide) ?_ | refine St.indexAddrA pg rfl rfl rfl rfl rfl rfl (by first | omega | decide) ?_ | fail) | (refine dk 11 ?_; refine St.len pg rfl rfl rfl ?_) | (refine dk 16 ?_; refine St.gtr rfl rfl ?_)) | (refine OW.d ?_; first | (refine dk 0 ?_; refine OW.step (gd_none rfl) rfl ?_) | (refine dk 1 ?_; first | refine OW.step (gd_yes rfl rfl rfl (by (first | rfl | assumption | exact decide_eq_true (by first | assumption | omega) | exact decide_eq_false (by first | assumption | exact not_not_intro (by assumption) | omega) | fail))) rfl ?_ | refine OW.pass (gd_no rfl rfl rfl (by (first | rfl | assumption | exact decide_eq_true (by first | assumption | omega) | exact decide_eq_false (by first | assumption | exact not_not_intro (by assumption) | omega) | fail))) rfl ?_ | refine OW.pass (gd_undef rfl rfl rfl) rfl ?_ | (refine OW.split_dnot rfl rfl rfl ?_ ?_ <;> intro _ <;> try (exfalso; omega)) | (refine OW.split_dec rfl rfl rfl ?_ ?_ <;> intro _ <;> try (exfalso; omega)) | (refine OW.split rfl rfl rfl ?_ ?_ <;> intro _) | fail)) | (refine CW.d ?_; first | (refine dk 0 ?_; refine CW.seq ?_) | (refine dk 1 ?_; refine CW.region ?_) | (refine dk 3 ?_; first | refine CW.cond_true rfl (by (first | rfl | assumption | exact decide_eq_true (by first | assumption | omega) | exact decide_eq_false (by first | assumption | exact not_not_intro (by assumption) | omega) | fail)) ?_ | refine CW.cond_false rfl (by (first | rfl | assumption | exact decide_eq_true (by first | assumption | omega) | exact decide_eq_false (by first | assumption | exact not_not_intro (by assumption) | omega) | fail)) ?_ | (refine CW.cond_dnot rfl ?_ ?_ <;> intro _ <;> try (exfalso; omega)) | (refine CW.cond_dec rfl ?_ ?_ <;> intro _ <;> try (exfalso; omega)) | (refine CW.cond rfl ?_ ?_ <;> intro _) | fail) | (refine dk 4 ?_; refine CW.skip ?_) | (refine dk 5 ?_; refine CW.ret ?_) | (refine dk 7 ?_; refine CW.block ?_)) | refine OW.nil ?_ | refine PK.code_normal ?_ | refine PK.code_ret ?_ | refine PK.blk_ret ?_ | refine PK.lp_ret ?_ | refine PK.nil_ret ?_ | fail | fail)
    all_goals first
      | exact ⟨_, ResOK.one rfl, ⟨false, rfl, by simp⟩, rfl⟩
      | skip
    refine (few_ents hm).mono ?_
    rintro _ _ ⟨⟨x, rfl, hx⟩, rfl⟩
    cases x with
    | false =>
      repeat' (first | (refine St.d ?_; first | (refine dk 1 ?_; refine St.assign rfl ?_) | (refine dk 6 ?_; first | refine St.pick_true rfl (by (first | rfl | assumption | exact decide_eq_true (by first | assumption | omega) | exact decide_eq_false (by first | assumption | exact not_not_intro (by assumption) | omega) | fail)) rfl ?_ | refine St.pick_false rfl (by (first | rfl | assumption | exact decide_eq_true (by first | assumption | omega) | exact decide_eq_false (by first | assumption | exact not_not_intro (by assumption) | omega) | fail)) rfl ?_ | fail) | (refine dk 7 ?_; first | refine St.not_dec rfl ?_ | refine St.not rfl ?_ | fail)) | (refine OW.d ?_; first | (refine dk 0 ?_; refine OW.step (gd_none rfl) rfl ?_) | (refine dk 1 ?_; first | refine OW.step (gd_yes rfl rfl rfl (by (first | rfl | assumption | exact decide_eq_true (by first | assumption | omega) | exact decide_eq_false (by first | assumption | exact not_not_intro (by assumption) | omega) | fail))) rfl ?_ | refine OW.pass (gd_no rfl rfl rfl (by (first | rfl | assumption | exact decide_eq_true (by first | assumption | omega) | exact decide_eq_false (by first | assumption | exact not_not_intro (by assumption) | omega) | fail))) rfl ?_ | refine OW.pass (gd_undef rfl rfl rfl) rfl ?_ | (refine OW.split_dnot rfl rfl rfl ?_ ?_ <;> intro _ <;> try (exfalso; omega)) | (refine OW.split_dec rfl rfl rfl ?_ ?_ <;> intro _ <;> try (exfalso; omega)) | (refine OW.split rfl rfl rfl ?_ ?_ <;> intro _) | fail)) | (refine CW.d ?_; first | (refine dk 0 ?_; refine CW.seq ?_) | (refine dk 1 ?_; refine CW.region ?_) | (refine dk 3 ?_; first | refine CW.cond_true rfl (by (first | rfl | assumption | exact decide_eq_true (by first | assumption | omega) | exact decide_eq_false (by first | assumption | exact not_not_intro (by assumption) | omega) | fail)) ?_ | refine CW.cond_false rfl (by (first | rfl | assumption | exact decide_eq_true (by first | assumption | omega) | exact decide_eq_false (by first | assumption | exact not_not_intro (by assumption) | omega) | fail)) ?_ | (refine CW.cond_dnot rfl ?_ ?_ <;> intro _ <;> try (exfalso; omega)) | (refine CW.cond_dec rfl ?_ ?_ <;> intro _ <;> try (exfalso; omega)) | (refine CW.cond rfl ?_ ?_ <;> intro _) | fail) | (refine dk 5 ?_; refine CW.ret ?_)) | refine OW.nil ?_ | refine PK.code_normal ?_ | refine PK.code_ret ?_ | refine PK.blk_ret ?_ | refine PK.lp_ret ?_ | refine PK.nil_ret ?_ | fail | fail)
      all_goals exact ⟨_, ResOK.one rfl, ⟨false, rfl, by simp⟩, rfl⟩
    | true =>
      obtain ⟨g1, g2⟩ := hx rfl
      repeat' (first | (refine St.d ?_; first | (refine dk 0 ?_; refine St.move rfl ?_) | (refine dk 1 ?_; refine St.assign rfl ?_) | (refine dk 6 ?_; first | refine St.pick_true rfl (by (first | rfl | assumption | exact decide_eq_true (by first | assumption | omega) | exact decide_eq_false (by first | assumption | exact not_not_intro (by assumption) | omega) | fail)) rfl ?_ | refine St.pick_false rfl (by (first | rfl | assumption | exact decide_eq_true (by first | assumption | omega) | exact decide_eq_false (by first | assumption | exact not_not_intro (by assumption) | omega) | fail)) rfl ?_ | fail) | (refine dk 18 ?_; refine St.add rfl rfl (by omega) ?_) | (refine dk 7 ?_; first | refine St.not_dec rfl ?_ | refine St.not rfl ?_ | fail)) | (refine OW.d ?_; first | (refine dk 0 ?_; refine OW.step (gd_none rfl) rfl ?_) | (refine dk 1 ?_; first | refine OW.step (gd_yes rfl rfl rfl (by (first | rfl | assumption | exact decide_eq_true (by first | assumption | omega) | exact decide_eq_false (by first | assumption | exact not_not_intro (by assumption) | omega) | fail))) rfl ?_ | refine OW.pass (gd_no rfl rfl rfl (by (first | rfl | assumption | exact decide_eq_true (by first | assumption | omega) | exact decide_eq_false (by first | assumption | exact not_not_intro (by assumption) | omega) | fail))) rfl ?_ | refine OW.pass (gd_undef rfl rfl rfl) rfl ?_ | (refine OW.split_dnot rfl rfl rfl ?_ ?_ <;> intro _ <;> try (exfalso; omega)) | (refine OW.split_dec rfl rfl rfl ?_ ?_ <;> intro _ <;> try (exfalso; omega)) | (refine OW.split rfl rfl rfl ?_ ?_ <;> intro _) | fail)) | (refine CW.d ?_; first | (refine dk 1 ?_; refine CW.region ?_) | (refine dk 3 ?_; first | refine CW.cond_true rfl (by (first | rfl | assumption | exact decide_eq_true (by first | assumption | omega) | exact decide_eq_false (by first | assumption | exact not_not_intro (by assumption) | omega) | fail)) ?_ | refine CW.cond_false rfl (by (first | rfl | assumption | exact decide_eq_true (by first | assumption | omega) | exact decide_eq_false (by first | assumption | exact not_not_intro (by assumption) | omega) | fail)) ?_ | (refine CW.cond_dnot rfl ?_ ?_ <;> intro _ <;> try (exfalso; omega)) | (refine CW.cond_dec rfl ?_ ?_ <;> intro _ <;> try (exfalso; omega)) | (refine CW.cond rfl ?_ ?_ <;> intro _) | fail) | (refine dk 4 ?_; refine CW.skip ?_)) | refine OW.nil ?_ | refine PK.code_normal ?_ | refine PK.blk_normal ?_ | refine PK.lp_normal ?_ | fail | fail)
      refine ⟨i + 1, by (repeat (first | exact trivial | refine ⟨rfl, ?_⟩)), ⟨rfl, hin, fun x hx => ?_⟩, by omega⟩
      rw [List.take_add_one, ha] at hx
      rcases List.mem_append.1 hx with h1 | h1
      · exact hall x h1
      · simp at h1; subst h1; exact ⟨by omega, by omega, g1, g2⟩
  · have : i = l.length := by omega
    subst this
    rw [List.take_length] at hall
    repeat' (first | (refine St.d ?_; first | (refine dk 0 ?_; refine St.move rfl ?_) | (refine dk 1 ?_; refine St.assign rfl ?_) | (refine dk 23 ?_; first | refine St.call pg rfl rfl rfl ?_ | refine St.call0 pg rfl rfl rfl ?_ | refine St.callX pg rfl rfl rfl ?_ | fail) | (refine dk 6 ?_; first | refine St.pick_true rfl (by (first | rfl | assumption | exact decide_eq_true (by first | assumption | omega) | exact decide_eq_false (by first | assumption | exact not_not_intro (by assumption) | omega) | fail)) rfl ?_ | refine St.pick_false rfl (by (first | rfl | assumption | exact decide_eq_true (by first | assumption | omega) | exact decide_eq_false (by first | assumption | exact not_not_intro (by assumption) | omega) | fail)) rfl ?_ | fail) | (refine dk 14 ?_; refine St.lss rfl rfl ?_) | (refine dk 11 ?_; refine St.len pg rfl rfl rfl ?_) | (refine dk 15 ?_; refine St.leq rfl rfl ?_)) | (refine OW.d ?_; first | (refine dk 0 ?_; refine OW.step (gd_none rfl) rfl ?_) | (refine dk 1 ?_; first | refine OW.step (gd_yes rfl rfl rfl (by (first | rfl | assumption | exact decide_eq_true (by first | assumption | omega) | exact decide_eq_false (by first | assumption | exact not_not_intro (by assumption) | omega) | fail))) rfl ?_ | refine OW.pass (gd_no rfl rfl rfl (by (first | rfl | assumption | exact decide_eq_true (by first | assumption | omega) | exact decide_eq_false (by first | assumption | exact not_not_intro (by assumption) | omega) | fail))) rfl ?_ | refine OW.pass (gd_undef rfl rfl rfl) rfl ?_ | (refine OW.split_dnot rfl rfl rfl ?_ ?_ <;> intro _ <;> try (exfalso; omega)) | (refine OW.split_dec rfl rfl rfl ?_ ?_ <;> intro _ <;> try (exfalso; omega)) | (refine OW.split rfl rfl rfl ?_ ?_ <;> intro _) | fail)) | (refine CW.d ?_; first | (refine dk 0 ?_; refine CW.seq ?_) | (refine dk 1 ?_; refine CW.region ?_) | (refine dk 3 ?_; first | refine CW.cond_true rfl (by (first | rfl | assumption | exact decide_eq_true (by first | assumption | omega) | exact decide_eq_false (by first | assumption | exact not_not_intro (by assumption) | omega) | fail)) ?_ | refine CW.cond_false rfl (by (first | rfl | assumption | exact decide_eq_true (by first | assumption | omega) | exact decide_eq_false (by first | assumption | exact not_not_intro (by assumption) | omega) | fail)) ?_ | (refine CW.cond_dnot rfl ?_ ?_ <;> intro _ <;> try (exfalso; omega)) | (refine CW.cond_dec rfl ?_ ?_ <;> intro _ <;> try (exfalso; omega)) | (refine CW.cond rfl ?_ ?_ <;> intro _) | fail) | (refine dk 5 ?_; refine CW.ret ?_) | (refine dk 6 ?_; refine CW.exit ?_)) | refine OW.nil ?_ | refine PK.code_normal ?_ | refine PK.code_exit ?_ | refine PK.lp_exit ?_ | refine PK.blk_exit ?_ | refine PK.nil_ret ?_ | fail | fail)
    · refine (few_ents h2).mono ?_
      rintro _ _ ⟨⟨x, rfl, hx⟩, rfl⟩
      repeat' (first | (refine St.d ?_; first | (refine dk 1 ?_; refine St.assign rfl ?_) | (refine dk 6 ?_; first | refine St.pick_true rfl (by (first | rfl | assumption | exact decide_eq_true (by first | assumption | omega) | exact decide_eq_false (by first | assumption | exact not_not_intro (by assumption) | omega) | fail)) rfl ?_ | refine St.pick_false rfl (by (first | rfl | assumption | exact decide_eq_true (by first | assumption | omega) | exact decide_eq_false (by first | assumption | exact not_not_intro (by assumption) | omega) | fail)) rfl ?_ | fail)) | (refine OW.d ?_; first | (refine dk 0 ?_; refine OW.step (gd_none rfl) rfl ?_) | (refine dk 1 ?_; first | refine OW.step (gd_yes rfl rfl rfl (by (first | rfl | assumption | exact decide_eq_true (by first | assumption | omega) | exact decide_eq_false (by first | assumption | exact not_not_intro (by assumption) | omega) | fail))) rfl ?_ | refine OW.pass (gd_no rfl rfl rfl (by (first | rfl | assumption | exact decide_eq_true (by first | assumption | omega) | exact decide_eq_false (by first | assumption | exact not_not_intro (by assumption) | omega) | fail))) rfl ?_ | refine OW.pass (gd_undef rfl rfl rfl) rfl ?_ | (refine OW.split_dnot rfl rfl rfl ?_ ?_ <;> intro _ <;> try (exfalso; omega)) | (refine OW.split_dec rfl rfl rfl ?_ ?_ <;> intro _ <;> try (exfalso; omega)) | (refine OW.split rfl rfl rfl ?_ ?_ <;> intro _) | fail)) | (refine CW.d ?_; first | (refine dk 5 ?_; refine CW.ret ?_)) | refine OW.nil ?_ | refine PK.code_normal ?_ | refine PK.nil_ret ?_ | fail | fail)
      refine ⟨_, ResOK.one rfl, ⟨x, ?_, fun h9 => ?_⟩, rfl⟩
      · simp
      · obtain ⟨g1, g2⟩ := hx h9
        exact ⟨by omega, hall, g1, g2⟩
    · exact ⟨_, ResOK.one rfl, ⟨false, rfl, by simp⟩, rfl⟩
end Go.Proofs.Ytdoefbnjehngmaa
