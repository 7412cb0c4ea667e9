/- Messages as data, and the contracts of Restore and New; conditions: none but the arguments given. -/
import Derived.Test.YtaopehadegknoaaEl
namespace Go.Proofs.Ytaopehadegknoaa
open Go Go.CF
set_option maxRecDepth 20000

/-! ### Messages, as data -/
structure Msg where
  kind : Int
  frm : Int
  to : Int
  term : Int
  index : Int
  logTerm : Int
  commit : Int
  granted : Bool
  e3 : Value := .slice none 0 0
  e4 : Value := .slice none 0 0
  e5 : Value := .slice none 0 0
  e6 : Value := .int .i64 0
  e7 : Value := .int .i64 0
  e8 : Value := .int .i64 0
  e9 : Value := .int .i64 0
  e10 : Value := .int .i64 0
  e11 : Value := .slice none 0 0
  e17 : Value := .slice none 0 0
/-- The cells that the node does not look at are single. -/
def Msg.ok (m : Msg) : Prop := m.e3.oneCell' = true ∧ m.e4.oneCell' = true ∧ m.e5.oneCell' = true ∧ m.e6.oneCell' = true ∧ m.e7.oneCell' = true ∧ m.e8.oneCell' = true ∧ m.e9.oneCell' = true ∧ m.e10.oneCell' = true ∧ m.e11.oneCell' = true ∧ m.e17.oneCell' = true

def msgV (m : Msg) : List Value :=
  [.int .i64 m.kind, .int .i64 m.frm, .int .i64 m.to, m.e3, m.e4, m.e5, m.e6, m.e7, m.e8, m.e9, m.e10, m.e11,
   .int .i64 m.term, .int .i64 m.index, .int .i64 m.logTerm, .int .i64 m.commit, .bool m.granted, m.e17]
def msgsV (l : List Msg) : List Value := l.flatMap msgV
theorem msgV_length (m : Msg) : (msgV m).length = 18 := rfl
theorem msgsV_length : ∀ (l : List Msg), (msgsV l).length = l.length * 18
  | [] => rfl
  | m :: l => by
    have h1 := msgsV_length l
    have h2 : msgsV (m :: l) = msgV m ++ msgsV l := rfl
    rw [h2, List.length_append, msgV_length, h1, List.length_cons]; omega
theorem msgsV_snoc (l : List Msg) (m : Msg) : msgsV (l ++ [m]) = msgsV l ++ msgV m := by simp [msgsV]
theorem msgV_one {m : Msg} (hm : m.ok) : ∀ u ∈ msgV m, u.oneCell' = true := by
  obtain ⟨h1, h2, h3, h4, h5, h6, h7, h8, h9, h10⟩ := hm
  unfold msgV
  intro u hu
  simp only [List.mem_cons, List.not_mem_nil, or_false] at hu
  repeat' (first | (rcases hu with rfl | hu; first | rfl | assumption) | (subst hu; first | rfl | assumption))
/-- A slice of messages, one's own. -/
structure MsgS (h : Heap) (v : Value) (l : List Msg) : Prop where
  own : Own h v 39 18 l.length (msgsV l)

theorem msgsV_get : ∀ {l : List Msg} {i : Nat} {m : Msg}, l[i]? = some m → ∀ (j : Nat) (v : Value), (msgV m)[j]? = some v → (msgsV l)[i * 18 + j]? = some v
  | [], i, m, hi, _, _, _ => by simp at hi
  | x :: l, 0, m, hi, j, v, hv => by
    simp at hi; subst hi
    have h2 : msgsV (x :: l) = msgV x ++ msgsV l := rfl
    have hj : j < (msgV x).length := (List.getElem?_eq_some_iff.1 hv).1
    rw [h2, Nat.zero_mul, Nat.zero_add, List.getElem?_append_left hj]; exact hv
  | x :: l, i + 1, m, hi, j, v, hv => by
    have h2 : msgsV (x :: l) = msgV x ++ msgsV l := rfl
    have h3 := msgsV_get (l := l) (i := i) (m := m) (by simpa using hi) j v hv
    rw [h2, List.getElem?_append_right (by rw [msgV_length]; omega), msgV_length]
    rw [← h3]; congr 1; omega
theorem MsgS.cases {h : Heap} {v : Value} {l : List Msg} (hs : MsgS h v l) : l = [] ∨ ∃ b o cap, v = .slice (some ⟨b, o, none⟩) l.length cap ∧ l.length ≤ cap ∧ b < h.size := by
  rcases hs.own.sl.ok with ⟨p, cap, h1, h2, _⟩ | ⟨b, o, cap, h1, _, h2, h3, _⟩
  · exact .inl (List.eq_nil_of_length_eq_zero h2)
  · exact .inr ⟨b, o, cap, h1, h2, h3⟩
theorem MsgS.full {h : Heap} {v : Value} {l : List Msg} (hs : MsgS h v l) {n : Nat} (hl : l.length = n) (hn : 0 < n) : ∃ b o cap, v = .slice (some ⟨b, o, none⟩) n cap ∧ n ≤ cap ∧ b < h.size := by
  rcases hs.cases with h1 | h1
  · rw [h1] at hl; simp at hl; omega
  · rw [hl] at h1; exact h1
theorem MsgS.cels {h : Heap} {b o len cap : Nat} {l : List Msg} (hs : MsgS h (.slice (some ⟨b, o, none⟩) len cap) l) {i : Nat} {m : Msg} (hi : l[i]? = some m) : Cels h ⟨b, o + i * 18, none⟩ (msgV m) := by
  rcases hs.own.sl.ok with ⟨p, cap, _, h2, _⟩ | ⟨b', o', cap', h1, _, _, _, hc⟩
  · rw [List.eq_nil_of_length_eq_zero h2] at hi; simp at hi
  · simp only [Value.slice.injEq, Option.some.injEq, Addr.mk.injEq] at h1
    obtain ⟨⟨rfl, rfl, _⟩, _, _⟩ := h1
    refine ⟨fun j v hv => ?_⟩
    have := hc.cell (msgsV_get hi j v hv)
    rw [addr_add]
    rw [show o + i * 18 + j = o + (i * 18 + j) by omega]
    exact this

/-! ### Restore -/
def promiseOK (rep i term vote : Int) : Prop := 1 ≤ rep ∧ rep ≤ 5 ∧ 0 ≤ i ∧ i < rep ∧ 0 ≤ term ∧ term ≤ 1048576 ∧ -1 ≤ vote ∧ vote < rep ∧ (term = 0 → vote = -1)
def node0 (rep i term vote : Int) : NodeS := { rep := rep, i := i, term := term, vote := vote, role := 0, leader := -1, silent := 0, votes := [] }

theorem restore_ok {h : Heap} {rep i term vote : Int} (hp : promiseOK rep i term vote) :
    CallsH Try.prog 19 #[.int .i64 rep, .int .i64 i, .int .i64 term, .int .i64 vote] h fun r h' => ∃ b, r = .tuple #[.pointer (some ⟨b, 0, none⟩), .int .i64 0] ∧ NodeAt h' b (node0 rep i term vote) [b] ∧ Stp [] h h' ∧ h.size ≤ b := by
  obtain ⟨h1, h2, h3, h4, h5, h6, h7, h8, h9⟩ := hp
  refine CallsH.of (l := [_, _, _, _]) Try.func19 rfl Try.ntmps19 Try.results19 rfl ?_
  repeat' (first | (refine St.d ?_; first | (refine dk 0 ?_; refine St.move rfl ?_) | (refine dk 1 ?_; refine St.assign rfl ?_) | (refine dk 6 ?_; first | refine St.pick_true rfl (by (first | rfl | assumption | exact decide_eq_true (by first | assumption | omega) | exact decide_eq_false (by first | assumption | exact not_not_intro (by assumption) | omega) | fail)) rfl ?_ | refine St.pick_false rfl (by (first | rfl | assumption | exact decide_eq_true (by first | assumption | omega) | exact decide_eq_false (by first | assumption | exact not_not_intro (by assumption) | omega) | fail)) rfl ?_ | fail) | (refine dk 12 ?_; first | refine St.eql rfl rfl ?_ | refine St.eql_pnil pg rfl rfl rfl rfl ?_ | refine St.eql_snil pg rfl rfl rfl rfl ?_ | refine St.beql pg rfl rfl rfl rfl ?_ | fail) | (refine dk 13 ?_; first | refine St.neq rfl rfl ?_ | refine St.neq_pnil pg rfl rfl rfl rfl ?_ | refine St.bneq pg rfl rfl rfl rfl ?_ | fail) | (refine dk 14 ?_; refine St.lss rfl rfl ?_) | (refine dk 17 ?_; refine St.geq rfl rfl ?_) | (refine dk 16 ?_; refine St.gtr rfl rfl ?_) | (refine dk 31 ?_; refine St.box rfl rfl rfl ?_; intro _ _ _ _ _) | (refine dk 28 ?_; refine St.build pg rfl rfl rfl rfl rfl (by (repeat (first | exact Fill.nil | (apply Fill.one; rfl; rfl; (focus (first | exact SetL.set (by assumption) | (repeat (first | exact SetL.z | apply SetL.s))))) | (apply Fill.agg; rfl; rfl; (focus (repeat (first | exact SetR.z | (apply SetR.c; (focus (first | exact SetL.set (by assumption) | (repeat (first | exact SetL.z | apply SetL.s)))))))))))) ?_)) | (refine OW.d ?_; first | (refine dk 0 ?_; refine OW.step (gd_none rfl) rfl ?_) | (refine dk 1 ?_; first | refine OW.step (gd_yes rfl rfl rfl (by (first | rfl | assumption | exact decide_eq_true (by first | assumption | omega) | exact decide_eq_false (by first | assumption | exact not_not_intro (by assumption) | omega) | fail))) rfl ?_ | refine OW.pass (gd_no rfl rfl rfl (by (first | rfl | assumption | exact decide_eq_true (by first | assumption | omega) | exact decide_eq_false (by first | assumption | exact not_not_intro (by assumption) | omega) | fail))) rfl ?_ | refine OW.pass (gd_undef rfl rfl rfl) rfl ?_ | (refine OW.split_dnot rfl rfl rfl ?_ ?_ <;> intro _ <;> try (exfalso; omega)) | (refine OW.split_dec rfl rfl rfl ?_ ?_ <;> intro _ <;> try (exfalso; omega)) | (refine OW.split rfl rfl rfl ?_ ?_ <;> intro _) | fail)) | (refine CW.d ?_; first | (refine dk 0 ?_; refine CW.seq ?_) | (refine dk 1 ?_; refine CW.region ?_) | (refine dk 3 ?_; first | refine CW.cond_true rfl (by (first | rfl | assumption | exact decide_eq_true (by first | assumption | omega) | exact decide_eq_false (by first | assumption | exact not_not_intro (by assumption) | omega) | fail)) ?_ | refine CW.cond_false rfl (by (first | rfl | assumption | exact decide_eq_true (by first | assumption | omega) | exact decide_eq_false (by first | assumption | exact not_not_intro (by assumption) | omega) | fail)) ?_ | (refine CW.cond_dnot rfl ?_ ?_ <;> intro _ <;> try (exfalso; omega)) | (refine CW.cond_dec rfl ?_ ?_ <;> intro _ <;> try (exfalso; omega)) | (refine CW.cond rfl ?_ ?_ <;> intro _) | fail) | (refine dk 4 ?_; refine CW.skip ?_) | (refine dk 5 ?_; refine CW.ret ?_)) | refine OW.nil ?_ | refine PK.code_normal ?_ | refine PK.lp_normal ?_ | refine PK.code_ret ?_ | refine PK.lp_ret ?_ | refine PK.nil_normal ?_ | refine PK.nil_ret ?_ | fail | fail)
  all_goals refine ⟨_, ResOK.two rfl rfl, _, rfl, ⟨_, by (repeat (first | assumption | exact New.blk (by assumption) | exact Upd.blk (by assumption) | (apply New.old; assumption) | (apply Upd.keep; assumption; (focus (first | assumption | exact Ne.symm (by assumption) | omega | (intro hne; simp only at hne; omega)))) | (apply Stp.blk0; assumption) | (apply Stp.blk1; assumption; (focus (first | assumption | exact Ne.symm (by assumption) | omega | (intro hne; simp only at hne; omega)))))), Own.nil, by simp [blkOf], rfl⟩, by (repeat (first | exact Stp.refl _ | assumption | refine Stp.new (by assumption) ?_ | refine Stp.upd (by assumption) ?_ (by first | (left; simp; done) | (right; omega)) | refine Stp.stp (by assumption) ?_ (by intro _ hm; first | (cases hm; done) | (left; simpa using hm)))), by omega⟩

theorem restore_bad {h : Heap} {rep i term vote : Int} (hp : ¬ promiseOK rep i term vote) :
    CallsH Try.prog 19 #[.int .i64 rep, .int .i64 i, .int .i64 term, .int .i64 vote] h fun r h' => r = .tuple #[.pointer none, .int .i64 1] ∧ h' = h := by
  refine CallsH.of (l := [_, _, _, _]) Try.func19 rfl Try.ntmps19 Try.results19 rfl ?_
  repeat' (first | (refine St.d ?_; first | (refine dk 0 ?_; refine St.move rfl ?_) | (refine dk 1 ?_; refine St.assign rfl ?_) | (refine dk 6 ?_; first | refine St.pick_true rfl (by (first | rfl | assumption | exact decide_eq_true (by first | assumption | omega) | exact decide_eq_false (by first | assumption | exact not_not_intro (by assumption) | omega) | fail)) rfl ?_ | refine St.pick_false rfl (by (first | rfl | assumption | exact decide_eq_true (by first | assumption | omega) | exact decide_eq_false (by first | assumption | exact not_not_intro (by assumption) | omega) | fail)) rfl ?_ | fail) | (refine dk 12 ?_; first | refine St.eql rfl rfl ?_ | refine St.eql_pnil pg rfl rfl rfl rfl ?_ | refine St.eql_snil pg rfl rfl rfl rfl ?_ | refine St.beql pg rfl rfl rfl rfl ?_ | fail) | (refine dk 13 ?_; first | refine St.neq rfl rfl ?_ | refine St.neq_pnil pg rfl rfl rfl rfl ?_ | refine St.bneq pg rfl rfl rfl rfl ?_ | fail) | (refine dk 14 ?_; refine St.lss rfl rfl ?_) | (refine dk 17 ?_; refine St.geq rfl rfl ?_) | (refine dk 16 ?_; refine St.gtr rfl rfl ?_) | (refine dk 31 ?_; refine St.box rfl rfl rfl ?_; intro _ _ _ _ _) | (refine dk 28 ?_; refine St.build pg rfl rfl rfl rfl rfl (by (repeat (first | exact Fill.nil | (apply Fill.one; rfl; rfl; (focus (first | exact SetL.set (by assumption) | (repeat (first | exact SetL.z | apply SetL.s))))) | (apply Fill.agg; rfl; rfl; (focus (repeat (first | exact SetR.z | (apply SetR.c; (focus (first | exact SetL.set (by assumption) | (repeat (first | exact SetL.z | apply SetL.s)))))))))))) ?_)) | (refine OW.d ?_; first | (refine dk 0 ?_; refine OW.step (gd_none rfl) rfl ?_) | (refine dk 1 ?_; first | refine OW.step (gd_yes rfl rfl rfl (by (first | rfl | assumption | exact decide_eq_true (by first | assumption | omega) | exact decide_eq_false (by first | assumption | exact not_not_intro (by assumption) | omega) | fail))) rfl ?_ | refine OW.pass (gd_no rfl rfl rfl (by (first | rfl | assumption | exact decide_eq_true (by first | assumption | omega) | exact decide_eq_false (by first | assumption | exact not_not_intro (by assumption) | omega) | fail))) rfl ?_ | refine OW.pass (gd_undef rfl rfl rfl) rfl ?_ | (refine OW.split_dnot rfl rfl rfl ?_ ?_ <;> intro _ <;> try (exfalso; omega)) | (refine OW.split_dec rfl rfl rfl ?_ ?_ <;> intro _ <;> try (exfalso; omega)) | (refine OW.split rfl rfl rfl ?_ ?_ <;> intro _) | fail)) | (refine CW.d ?_; first | (refine dk 0 ?_; refine CW.seq ?_) | (refine dk 1 ?_; refine CW.region ?_) | (refine dk 3 ?_; first | refine CW.cond_true rfl (by (first | rfl | assumption | exact decide_eq_true (by first | assumption | omega) | exact decide_eq_false (by first | assumption | exact not_not_intro (by assumption) | omega) | fail)) ?_ | refine CW.cond_false rfl (by (first | rfl | assumption | exact decide_eq_true (by first | assumption | omega) | exact decide_eq_false (by first | assumption | exact not_not_intro (by assumption) | omega) | fail)) ?_ | (refine CW.cond_dnot rfl ?_ ?_ <;> intro _ <;> try (exfalso; omega)) | (refine CW.cond_dec rfl ?_ ?_ <;> intro _ <;> try (exfalso; omega)) | (refine CW.cond rfl ?_ ?_ <;> intro _) | fail) | (refine dk 4 ?_; refine CW.skip ?_) | (refine dk 5 ?_; refine CW.ret ?_)) | refine OW.nil ?_ | refine PK.code_normal ?_ | refine PK.lp_normal ?_ | refine PK.code_ret ?_ | refine PK.lp_ret ?_ | refine PK.nil_normal ?_ | refine PK.nil_ret ?_ | fail | fail)
  all_goals first | exact ⟨_, ResOK.two rfl rfl, rfl, rfl⟩ | (exfalso; apply hp; unfold promiseOK; omega)

theorem new_ok {h : Heap} {rep i : Int} (hp : promiseOK rep i 0 (-1)) :
    CallsH Try.prog 57 #[.int .i64 rep, .int .i64 i] h fun r h' => ∃ b, r = .tuple #[.pointer (some ⟨b, 0, none⟩), .int .i64 0] ∧ NodeAt h' b (node0 rep i 0 (-1)) [b] ∧ Stp [] h h' ∧ h.size ≤ b := by
  refine CallsH.of (l := [_, _]) Try.func57 rfl Try.ntmps57 Try.results57 rfl ?_
  repeat' (first | (refine St.d ?_; first | (refine dk 0 ?_; refine St.move rfl ?_) | (refine dk 1 ?_; refine St.assign rfl ?_) | (refine dk 23 ?_; first | refine St.call pg rfl rfl rfl ?_ | refine St.call0 pg rfl rfl rfl ?_ | refine St.callX pg rfl rfl rfl ?_ | fail) | (refine dk 9 ?_; refine St.extract rfl rfl ?_)) | (refine OW.d ?_; refine dk 0 ?_; refine OW.step (gd_none rfl) rfl ?_) | (refine CW.d ?_; first | (refine dk 0 ?_; refine CW.seq ?_) | (refine dk 1 ?_; refine CW.region ?_) | (refine dk 5 ?_; refine CW.ret ?_)) | refine OW.nil ?_ | refine PK.code_normal ?_ | refine PK.lp_normal ?_ | refine PK.code_ret ?_ | refine PK.lp_ret ?_ | refine PK.nil_normal ?_ | refine PK.nil_ret ?_ | fail | fail)
  refine (restore_ok hp).mono ?_
  rintro _ h1 ⟨b, rfl, hb, hs, hn⟩
  repeat' (first | (refine St.d ?_; first | (refine dk 0 ?_; refine St.move rfl ?_) | (refine dk 1 ?_; refine St.assign rfl ?_) | (refine dk 23 ?_; first | refine St.call pg rfl rfl rfl ?_ | refine St.call0 pg rfl rfl rfl ?_ | refine St.callX pg rfl rfl rfl ?_ | fail) | (refine dk 9 ?_; refine St.extract rfl rfl ?_)) | (refine OW.d ?_; refine dk 0 ?_; refine OW.step (gd_none rfl) rfl ?_) | (refine CW.d ?_; first | (refine dk 0 ?_; refine CW.seq ?_) | (refine dk 1 ?_; refine CW.region ?_) | (refine dk 5 ?_; refine CW.ret ?_)) | refine OW.nil ?_ | refine PK.code_normal ?_ | refine PK.lp_normal ?_ | refine PK.code_ret ?_ | refine PK.lp_ret ?_ | refine PK.nil_normal ?_ | refine PK.nil_ret ?_ | fail | fail)
  exact ⟨_, ResOK.two rfl rfl, b, rfl, hb, hs, hn⟩

/-! ### Tick -/
def voteMsg (s : NodeS) (index term v : Int) : Msg := { kind := 5, frm := s.i, to := v, term := s.term, index := index, logTerm := term, commit := 0, granted := false }
def asks (s : NodeS) (index term : Int) (voters : List Int) : List Msg := (voters.filter (fun v => decide (v ≠ s.i))).map (voteMsg s index term)
def NodeS.stand (s : NodeS) : NodeS := { s with silent := 0, term := s.term + 1, vote := s.i, role := 1, leader := -1, votes := [s.i] }
def NodeS.tick (s : NodeS) (voters : List Int) (index term : Int) : NodeS × List Msg :=
  if s.role = 2 then (s, [])
  else if s.silent + 1 < 10 + 3 * s.i then ({ s with silent := s.silent + 1 }, [])
  else if s.i ∈ voters ∧ s.term < 1048576 then
    if maj voters [s.i] then (s.stand.win voters, []) else (s.stand, asks s.stand index term voters)
  else ({ s with silent := 0 }, [])

structure NodeS.wf (s : NodeS) : Prop where
  rep : 1 ≤ s.rep ∧ s.rep ≤ 5
  i : 0 ≤ s.i ∧ s.i < s.rep
  term : 0 ≤ s.term ∧ s.term ≤ 1048576
  silent : 0 ≤ s.silent ∧ s.silent ≤ 22

theorem asks_take {s : NodeS} {index term : Int} {voters : List Int} {k : Nat} {x : Int} (h : voters[k]? = some x) :
    asks s index term (voters.take (k + 1)) = asks s index term (voters.take k) ++ if x ≠ s.i then [voteMsg s index term x] else [] := by
  rw [List.take_add_one, h]
  simp only [asks, Option.toList, List.filter_append, List.filter_cons, List.filter_nil, List.map_append]
  by_cases hx : x = s.i <;> simp [hx]
theorem asks_le {s : NodeS} {index term : Int} {voters : List Int} : (asks s index term voters).length ≤ voters.length := by
  simp only [asks, List.length_map]; exact List.length_filter_le _ _

end Go.Proofs.Ytaopehadegknoaa
