/- Contracts of package stability: fits, Learn and what they use; conditions: what is known lies in the heap. -/
import Derived.Test.YtaopehadegknoaaEv4
namespace Go.Proofs.Ytaopehadegknoaa
open Go Go.CF
set_option maxRecDepth 20000

structure CkV (h : Heap) (v : Value) (c : List Int) : Prop where
  s : IntS h v c
  l : c.length ≤ 9223372036854775807
  r : ∀ x ∈ c, -9223372036854775808 ≤ x ∧ x ≤ 9223372036854775807
theorem CkV.stp {fp : List Nat} {h h' : Heap} {v : Value} {c : List Int} (x : Stp fp h h') (k : CkV h v c) (hn : ∀ b ∈ rdOf v, b ∉ fp) : CkV h' v c := ⟨k.s.stp x hn, k.l, k.r⟩
theorem CkV.grow {h h' : Heap} {v : Value} {c : List Int} (x : Stp [] h h') (k : CkV h v c) : CkV h' v c := k.stp x (by simp)
theorem CkV.ofVld {h : Heap} {v : Value} {c : List Int} (hs : IntS h v c) (hv : vld c) : CkV h v c := ⟨hs, by have := hv.2; omega, fun x hx => by have := hv.1 x hx; omega⟩
theorem CkV.ofR {h : Heap} {F : Nat → Prop} {cs : List Value} {c : List Int} (hr : (Rp.int .i64).slice.R h F cs c) : ∃ v, cs = [v] ∧ CkV h v c ∧ ∀ b ∈ rdOf v, F b := by
  obtain ⟨v, h1, h2, h3, h4, h5⟩ := intsR1 hr
  exact ⟨v, h1, ⟨h2, h4, h5⟩, h3⟩
theorem CkV.toR {h : Heap} {v : Value} {c : List Int} (k : CkV h v c) : (Rp.int .i64).slice.R h (fun _ => True) [v] c := by
  refine ⟨v, rfl, fun _ _ => trivial, k.l, c.map (fun x => [.int .i64 x]), ?_, ⟨by simp, fun i row a hi ha => ?_⟩⟩
  · have : (c.map (fun x => [Value.int .i64 x])).flatten = intsV c := by
      have : ∀ c : List Int, (c.map (fun x => [Value.int .i64 x])).flatten = intsV c := by
        intro c
        induction c with
        | nil => rfl
        | cons x c ih => simp only [List.map_cons, List.flatten_cons, ih]; rfl
      exact this c
    rw [this]; exact k.s.sl
  · rw [List.getElem?_map, ha] at hi
    cases hi
    exact ⟨rfl, wf_i64.2 (k.r a (List.mem_of_getElem? ha))⟩
theorem clks_of {h : Heap} {v : Value} {vs : List Value} {l : List (List Int)} (hs : Sl h v l.length vs) (hvl : vs.length = l.length) (hl : l.length ≤ 9223372036854775807) (hk : ∀ (i : Nat) (c : List Int) (w : Value), l[i]? = some c → vs[i]? = some w → CkV h w c) :
    clks.R h (fun _ => True) [v] l := by
  refine ⟨v, rfl, fun _ _ => trivial, hl, vs.map (fun w => [w]), ?_, ⟨by simp [hvl], fun i row a hi ha => ?_⟩⟩
  · have : ∀ vs : List Value, (vs.map (fun w => [w])).flatten = vs := by
      intro vs
      induction vs with
      | nil => rfl
      | cons x c ih => simp only [List.map_cons, List.flatten_cons, ih]; rfl
    rw [this]; exact hs
  · rw [List.getElem?_map] at hi
    obtain ⟨w, hw, rfl⟩ := Option.map_eq_some_iff.1 hi
    exact (hk i a w ha hw).toR

def fit (c : List Int) (n : Int) : Prop := vld c ∧ (c.length : Int) = n
instance (c : List Int) (n : Int) : Decidable (fit c n) := inferInstanceAs (Decidable (_ ∧ _))
theorem fits_any {h : Heap} {v : Value} {c : List Int} (k : CkV h v c) (n : Int) : CallsH Try.prog 64 #[v, .int .i64 n] h fun r h' => r = .bool (decide (fit c n)) ∧ h' = h := by
  obtain ⟨p, cap, rfl⟩ := k.s.sl.shape
  refine CallsH.of (l := [_, _]) Try.func64 rfl Try.ntmps64 Try.results64 rfl ?_
  repeat' (first | (refine St.d ?_; first | (refine dk 0 ?_; refine St.move rfl ?_) | (refine dk 1 ?_; refine St.assign rfl ?_) | (refine dk 23 ?_; first | refine St.call pg rfl rfl rfl ?_ | refine St.call0 pg rfl rfl rfl ?_ | refine St.callX pg rfl rfl rfl ?_ | fail)) | (refine OW.d ?_; first | (refine dk 0 ?_; refine OW.step (gd_none rfl) rfl ?_) | (refine dk 1 ?_; first | refine OW.step (gd_yes rfl rfl rfl (by (first | rfl | assumption | exact decide_eq_true (by first | assumption | omega) | exact decide_eq_false (by first | assumption | exact not_not_intro (by assumption) | omega) | fail))) rfl ?_ | refine OW.pass (gd_no rfl rfl rfl (by (first | rfl | assumption | exact decide_eq_true (by first | assumption | omega) | exact decide_eq_false (by first | assumption | exact not_not_intro (by assumption) | omega) | fail))) rfl ?_ | refine OW.pass (gd_undef rfl rfl rfl) rfl ?_ | (refine OW.split_dnot rfl rfl rfl ?_ ?_ <;> intro _ <;> try (exfalso; omega)) | (refine OW.split_dec rfl rfl rfl ?_ ?_ <;> intro _ <;> try (exfalso; omega)) | (refine OW.split rfl rfl rfl ?_ ?_ <;> intro _) | fail)) | (refine CW.d ?_; first | (refine dk 0 ?_; refine CW.seq ?_) | (refine dk 1 ?_; refine CW.region ?_)) | refine OW.nil ?_ | refine PK.code_normal ?_ | fail | fail)
  refine (vld_any k.s k.l).same ?_
  repeat' (first | (refine St.d ?_; first | (refine dk 0 ?_; refine St.move rfl ?_) | (refine dk 1 ?_; refine St.assign rfl ?_) | (refine dk 6 ?_; first | refine St.pick_true rfl (by (first | rfl | assumption | exact decide_eq_true (by first | assumption | omega) | exact decide_eq_false (by first | assumption | exact not_not_intro (by assumption) | omega) | fail)) rfl ?_ | refine St.pick_false rfl (by (first | rfl | assumption | exact decide_eq_true (by first | assumption | omega) | exact decide_eq_false (by first | assumption | exact not_not_intro (by assumption) | omega) | fail)) rfl ?_ | fail) | (refine dk 12 ?_; first | refine St.eql rfl rfl ?_ | refine St.eql_pnil pg rfl rfl rfl rfl ?_ | refine St.eql_snil pg rfl rfl rfl rfl ?_ | refine St.beql pg rfl rfl rfl rfl ?_ | fail) | (refine dk 11 ?_; refine St.len pg rfl rfl rfl ?_)) | (refine OW.d ?_; first | (refine dk 0 ?_; refine OW.step (gd_none rfl) rfl ?_) | (refine dk 1 ?_; first | refine OW.step (gd_yes rfl rfl rfl (by (first | rfl | assumption | exact decide_eq_true (by first | assumption | omega) | exact decide_eq_false (by first | assumption | exact not_not_intro (by assumption) | omega) | fail))) rfl ?_ | refine OW.pass (gd_no rfl rfl rfl (by (first | rfl | assumption | exact decide_eq_true (by first | assumption | omega) | exact decide_eq_false (by first | assumption | exact not_not_intro (by assumption) | omega) | fail))) rfl ?_ | refine OW.pass (gd_undef rfl rfl rfl) rfl ?_ | (refine OW.split_dnot rfl rfl rfl ?_ ?_ <;> intro _ <;> try (exfalso; omega)) | (refine OW.split_dec rfl rfl rfl ?_ ?_ <;> intro _ <;> try (exfalso; omega)) | (refine OW.split rfl rfl rfl ?_ ?_ <;> intro _) | fail)) | (refine CW.d ?_; first | (refine dk 5 ?_; refine CW.ret ?_)) | refine OW.nil ?_ | refine PK.code_normal ?_ | refine PK.nil_ret ?_ | fail | fail)
  all_goals
    refine ⟨_, ResOK.one rfl, ?_, rfl⟩
    congr 1
    simp [fit, *]

/-! ### What is known -/
def nils (k : Nat) : List Value := List.replicate k (.slice none 0 0)
def kV (n : Nat) (vs : List Value) : List Value := .int .i64 n :: (vs ++ nils (5 - n))
structure KnAt (h : Heap) (K n : Nat) (rows : List (List Int)) (S : List Nat) : Prop where
  ok : ∃ vs : List Value, vs.length = n ∧ Blk h K 131 (kV n vs) ∧ (∀ (i : Nat) (c : List Int) (w : Value), rows[i]? = some c → vs[i]? = some w → IntS h w c ∧ ∀ b ∈ rdOf w, b ∉ S)
  len : rows.length = n
  n5 : 1 ≤ n ∧ n ≤ 5
  fit : ∀ c ∈ rows, vld c ∧ c.length = n
  self : K ∈ S
theorem KnAt.stp {h h' : Heap} {K n : Nat} {rows : List (List Int)} {S fp : List Nat} (x : Stp fp h h') (k : KnAt h K n rows S) (hK : K ∉ fp) (hS : ∀ b ∈ fp, b ∈ S ∨ h.size ≤ b) : KnAt h' K n rows S := by
  obtain ⟨vs, h1, h2, h3⟩ := k.ok
  refine ⟨⟨vs, h1, x.blk h2 hK, fun i c w hc hw => ?_⟩, k.len, k.n5, k.fit, k.self⟩
  obtain ⟨h4, h5⟩ := h3 i c w hc hw
  refine ⟨h4.stp x (fun b hb hm => ?_), h5⟩
  rcases hS b hm with h6 | h6
  · exact h5 b hb h6
  · have := h4.sl.lt b hb; omega
theorem KnAt.grow {h h' : Heap} {K n : Nat} {rows : List (List Int)} {S : List Nat} (x : Stp [] h h') (k : KnAt h K n rows S) : KnAt h' K n rows S := k.stp x (by simp) (by simp)
theorem KnAt.more {h : Heap} {K n B : Nat} {rows : List (List Int)} {S : List Nat} (k : KnAt h K n rows S) (hB : h.size ≤ B) : KnAt h K n rows (B :: S) := by
  obtain ⟨vs, h1, h2, h3⟩ := k.ok
  refine ⟨⟨vs, h1, h2, fun i c w hc hw => ?_⟩, k.len, k.n5, k.fit, List.mem_cons_of_mem _ k.self⟩
  obtain ⟨h4, h5⟩ := h3 i c w hc hw
  refine ⟨h4, fun b hb hm => ?_⟩
  rcases List.mem_cons.1 hm with rfl | hm
  · have := h4.sl.lt _ hb; omega
  · exact h5 b hb hm
theorem KnAt.row {h : Heap} {K n : Nat} {rows : List (List Int)} {S : List Nat} (k : KnAt h K n rows S) {i : Nat} {c : List Int} (hc : rows[i]? = some c) : ∃ w, Cel h ⟨K, 1 + i, none⟩ w ∧ CkV h w c ∧ vld c ∧ c.length = n ∧ ∀ b ∈ rdOf w, b ∉ S := by
  obtain ⟨vs, h1, h2, h3⟩ := k.ok
  have hi := (List.getElem?_eq_some_iff.1 hc).1
  have hl := k.len
  obtain ⟨w, hw⟩ : ∃ w, vs[i]? = some w := ⟨_, List.getElem?_eq_getElem (by omega)⟩
  obtain ⟨h4, h5⟩ := h3 i c w hc hw
  obtain ⟨h6, h7⟩ := k.fit c (List.mem_of_getElem? hc)
  refine ⟨w, h2.cel ?_, .ofVld h4 h6, h6, h7, h5⟩
  rw [Nat.add_comm]
  simp only [kV, List.getElem?_cons_succ]
  rw [List.getElem?_append_left (by omega)]; exact hw
theorem KnAt.num {h : Heap} {K n : Nat} {rows : List (List Int)} {S : List Nat} (k : KnAt h K n rows S) : Cel h ⟨K, 0, none⟩ (.int .i64 n) := by
  obtain ⟨vs, h1, h2, h3⟩ := k.ok
  exact h2.cel rfl
/-- A row has been replaced. -/
theorem KnAt.put {h : Heap} {K n : Nat} {rows : List (List Int)} {S : List Nat} (k : KnAt h K n rows S) {i : Nat} (hi : i < n) :
    ∃ L, Blk h K 131 L ∧ 1 + i < L.length ∧ ∀ h' w c, Upd h K 131 (L.set (1 + i) w) h' → IntS h w c → (∀ b ∈ rdOf w, b ∉ S) → vld c → c.length = n → KnAt h' K n (rows.set i c) S := by
  obtain ⟨vs, h1, h2, h3⟩ := k.ok
  have hn5 := k.n5
  refine ⟨_, h2, by simp [kV, nils]; omega, fun h' w c hu hw hwS hv hcl => ?_⟩
  have hb := hu.blk
  have e : (kV n vs).set (1 + i) w = kV n (vs.set i w) := by
    unfold kV
    rw [Nat.add_comm, List.set_cons_succ, List.set_append_left _ _ (by omega)]
  rw [e] at hb
  refine ⟨⟨vs.set i w, by simpa using h1, hb, fun j d x hd hx => ?_⟩, by simpa using k.len, hn5, fun d hd => ?_, k.self⟩
  · have hst := hu.stp
    rw [List.getElem?_set] at hd hx
    by_cases hij : i = j
    · rw [if_pos hij] at hd hx
      split at hd
      · cases hd
        split at hx
        · cases hx
          exact ⟨hw.stp hst (fun q hq hm => by simp at hm; subst hm; exact hwS _ hq k.self), hwS⟩
        · cases hx
      · cases hd
    · rw [if_neg hij] at hd hx
      obtain ⟨h4, h5⟩ := h3 j d x hd hx
      exact ⟨h4.stp hst (fun q hq hm => by simp at hm; subst hm; exact h5 _ hq k.self), h5⟩
  · rcases List.mem_or_eq_of_mem_set hd with h4 | rfl
    · exact k.fit d h4
    · exact ⟨hv, hcl⟩

/-! ### Learn -/
def learn (n : Nat) (rows : List (List Int)) (r : Int) (c : List Int) : List (List Int) × Int :=
  if r < 0 ∨ (n : Int) ≤ r then (rows, 2) else if fit c n then (rows.set r.toNat (zipC max (rows.getD r.toNat []) c), 0) else (rows, 1)
theorem zip_vld {n : Nat} {a c : List Int} (ha : vld a ∧ a.length = n) (hc : vld c ∧ c.length = n) : vld (zipC max a c) ∧ (zipC max a c).length = n := by
  have hl : (zipC max a c).length = n := by simp [zipC]; omega
  refine ⟨⟨fun x hx => ?_, by rw [hl, ← ha.2]; exact ha.1.2⟩, hl⟩
  obtain ⟨i, hi⟩ := List.getElem?_of_mem hx
  simp only [zipC, List.getElem?_zipWith] at hi
  cases h1 : a[i]? with
  | none => simp [h1] at hi
  | some y =>
    cases h2 : c[i]? with
    | none => simp [h1, h2] at hi
    | some z =>
      simp only [h1, h2, Option.some.injEq] at hi
      have h3 := ha.1.1 y (List.mem_of_getElem? h1)
      have h4 := hc.1.1 z (List.mem_of_getElem? h2)
      omega

set_option maxHeartbeats 1000000 in
theorem learn_any {h : Heap} {K n : Nat} {rows : List (List Int)} {S : List Nat} (k : KnAt h K n rows S) {v : Value} {c : List Int} (hc : CkV h v c) (hS : ∀ b ∈ S, b < h.size) (r : Int) :
    CallsH Try.prog 30 #[.pointer (some ⟨K, 0, none⟩), .int .i64 r, v] h fun x h' => x = .int .i64 (learn n rows r c).2 ∧ KnAt h' K n (learn n rows r c).1 S ∧ Stp [K] h h' := by
  have hn5 := k.n5
  have hnum := k.num
  obtain ⟨p, cap, rfl⟩ := hc.s.sl.shape
  refine CallsH.of (l := [_, _, _]) Try.func30 rfl Try.ntmps30 Try.results30 rfl ?_
  by_cases hr : r < 0 ∨ (n : Int) ≤ r
  · have hl : learn n rows r c = (rows, 2) := if_pos hr
    rw [hl]
    repeat' (first | (refine St.d ?_; first | (refine dk 0 ?_; refine St.move rfl ?_) | (refine dk 4 ?_; first | refine St.fieldAddr0 pg rfl rfl rfl rfl ?_ | refine St.fieldAddr pg rfl rfl rfl rfl ?_ | fail) | (refine dk 2 ?_; first | refine St.load pg rfl rfl rfl (by (first | assumption | exact Blk.cel (by (repeat (first | assumption | exact New.blk (by assumption) | exact Upd.blk (by assumption) | (apply New.old; assumption) | (apply Upd.keep; assumption; (focus (first | assumption | exact Ne.symm (by assumption) | omega | (intro hne; simp only at hne; omega)))) | (apply Stp.blk0; assumption) | (apply Stp.blk1; assumption; (focus (first | assumption | exact Ne.symm (by assumption) | omega | (intro hne; simp only at hne; omega))))))) (by rfl) | exact Cels.fld (by assumption) (by rfl) | exact Cels.fld0 (by assumption) (by rfl) | (repeat (first | assumption | (apply New.oldc; assumption) | (apply Upd.keepc; assumption; (focus (first | assumption | exact Ne.symm (by assumption) | omega | (intro hne; simp only at hne; omega)))) | (apply Stp.cel0; assumption))))) (by first | exact List.not_mem_nil | assumption) rfl ?_ | refine St.loadS pg rfl rfl rfl (by first | assumption | exact Blk.cels0 (by (repeat (first | assumption | exact New.blk (by assumption) | exact Upd.blk (by assumption) | (apply New.old; assumption) | (apply Upd.keep; assumption; (focus (first | assumption | exact Ne.symm (by assumption) | omega | (intro hne; simp only at hne; omega)))) | (apply Stp.blk0; assumption) | (apply Stp.blk1; assumption; (focus (first | assumption | exact Ne.symm (by assumption) | omega | (intro hne; simp only at hne; omega)))))))) (by first | exact List.not_mem_nil | assumption) rfl rfl ?_ | fail) | (refine dk 1 ?_; refine St.assign rfl ?_) | (refine dk 5 ?_; refine St.nilCheck rfl ?_) | (refine dk 6 ?_; first | refine St.pick_true rfl (by (first | rfl | assumption | exact decide_eq_true (by first | assumption | omega) | exact decide_eq_false (by first | assumption | exact not_not_intro (by assumption) | omega) | fail)) rfl ?_ | refine St.pick_false rfl (by (first | rfl | assumption | exact decide_eq_true (by first | assumption | omega) | exact decide_eq_false (by first | assumption | exact not_not_intro (by assumption) | omega) | fail)) rfl ?_ | fail) | (refine dk 14 ?_; refine St.lss rfl rfl ?_) | (refine dk 17 ?_; refine St.geq rfl rfl ?_)) | (refine OW.d ?_; first | (refine dk 0 ?_; refine OW.step (gd_none rfl) rfl ?_) | (refine dk 1 ?_; first | refine OW.step (gd_yes rfl rfl rfl (by (first | rfl | assumption | exact decide_eq_true (by first | assumption | omega) | exact decide_eq_false (by first | assumption | exact not_not_intro (by assumption) | omega) | fail))) rfl ?_ | refine OW.pass (gd_no rfl rfl rfl (by (first | rfl | assumption | exact decide_eq_true (by first | assumption | omega) | exact decide_eq_false (by first | assumption | exact not_not_intro (by assumption) | omega) | fail))) rfl ?_ | refine OW.pass (gd_undef rfl rfl rfl) rfl ?_ | (refine OW.split_dnot rfl rfl rfl ?_ ?_ <;> intro _ <;> try (exfalso; omega)) | (refine OW.split_dec rfl rfl rfl ?_ ?_ <;> intro _ <;> try (exfalso; omega)) | (refine OW.split rfl rfl rfl ?_ ?_ <;> intro _) | fail)) | (refine CW.d ?_; first | (refine dk 0 ?_; refine CW.seq ?_) | (refine dk 1 ?_; refine CW.region ?_) | (refine dk 3 ?_; first | refine CW.cond_true rfl (by (first | rfl | assumption | exact decide_eq_true (by first | assumption | omega) | exact decide_eq_false (by first | assumption | exact not_not_intro (by assumption) | omega) | fail)) ?_ | refine CW.cond_false rfl (by (first | rfl | assumption | exact decide_eq_true (by first | assumption | omega) | exact decide_eq_false (by first | assumption | exact not_not_intro (by assumption) | omega) | fail)) ?_ | (refine CW.cond_dnot rfl ?_ ?_ <;> intro _ <;> try (exfalso; omega)) | (refine CW.cond_dec rfl ?_ ?_ <;> intro _ <;> try (exfalso; omega)) | (refine CW.cond rfl ?_ ?_ <;> intro _) | fail) | (refine dk 5 ?_; refine CW.ret ?_) | (refine dk 7 ?_; refine CW.block ?_)) | refine OW.nil ?_ | refine PK.code_normal ?_ | refine PK.code_ret ?_ | refine PK.blk_ret ?_ | refine PK.nil_ret ?_ | refine RW.step rfl (gd_none rfl) rfl ?_ | fail)
    all_goals first
      | exact ⟨_, ResOK.one rfl, rfl, k, Stp.refl _⟩
      | (exfalso; omega)
  obtain ⟨j, rfl⟩ : ∃ j : Nat, r = j := ⟨r.toNat, by omega⟩
  have hjn : j < n := by omega
  repeat' (first | (refine St.d ?_; first | (refine dk 0 ?_; refine St.move rfl ?_) | (refine dk 4 ?_; first | refine St.fieldAddr0 pg rfl rfl rfl rfl ?_ | refine St.fieldAddr pg rfl rfl rfl rfl ?_ | fail) | (refine dk 2 ?_; first | refine St.load pg rfl rfl rfl (by (first | assumption | exact Blk.cel (by (repeat (first | assumption | exact New.blk (by assumption) | exact Upd.blk (by assumption) | (apply New.old; assumption) | (apply Upd.keep; assumption; (focus (first | assumption | exact Ne.symm (by assumption) | omega | (intro hne; simp only at hne; omega)))) | (apply Stp.blk0; assumption) | (apply Stp.blk1; assumption; (focus (first | assumption | exact Ne.symm (by assumption) | omega | (intro hne; simp only at hne; omega))))))) (by rfl) | exact Cels.fld (by assumption) (by rfl) | exact Cels.fld0 (by assumption) (by rfl) | (repeat (first | assumption | (apply New.oldc; assumption) | (apply Upd.keepc; assumption; (focus (first | assumption | exact Ne.symm (by assumption) | omega | (intro hne; simp only at hne; omega)))) | (apply Stp.cel0; assumption))))) (by first | exact List.not_mem_nil | assumption) rfl ?_ | refine St.loadS pg rfl rfl rfl (by first | assumption | exact Blk.cels0 (by (repeat (first | assumption | exact New.blk (by assumption) | exact Upd.blk (by assumption) | (apply New.old; assumption) | (apply Upd.keep; assumption; (focus (first | assumption | exact Ne.symm (by assumption) | omega | (intro hne; simp only at hne; omega)))) | (apply Stp.blk0; assumption) | (apply Stp.blk1; assumption; (focus (first | assumption | exact Ne.symm (by assumption) | omega | (intro hne; simp only at hne; omega)))))))) (by first | exact List.not_mem_nil | assumption) rfl rfl ?_ | fail) | (refine dk 1 ?_; refine St.assign rfl ?_) | (refine dk 5 ?_; refine St.nilCheck rfl ?_) | (refine dk 23 ?_; first | refine St.call pg rfl rfl rfl ?_ | refine St.call0 pg rfl rfl rfl ?_ | refine St.callX pg rfl rfl rfl ?_ | fail) | (refine dk 6 ?_; first | refine St.pick_true rfl (by (first | rfl | assumption | exact decide_eq_true (by first | assumption | omega) | exact decide_eq_false (by first | assumption | exact not_not_intro (by assumption) | omega) | fail)) rfl ?_ | refine St.pick_false rfl (by (first | rfl | assumption | exact decide_eq_true (by first | assumption | omega) | exact decide_eq_false (by first | assumption | exact not_not_intro (by assumption) | omega) | fail)) rfl ?_ | fail) | (refine dk 14 ?_; refine St.lss rfl rfl ?_) | (refine dk 17 ?_; refine St.geq rfl rfl ?_)) | (refine OW.d ?_; first | (refine dk 0 ?_; refine OW.step (gd_none rfl) rfl ?_) | (refine dk 1 ?_; first | refine OW.step (gd_yes rfl rfl rfl (by (first | rfl | assumption | exact decide_eq_true (by first | assumption | omega) | exact decide_eq_false (by first | assumption | exact not_not_intro (by assumption) | omega) | fail))) rfl ?_ | refine OW.pass (gd_no rfl rfl rfl (by (first | rfl | assumption | exact decide_eq_true (by first | assumption | omega) | exact decide_eq_false (by first | assumption | exact not_not_intro (by assumption) | omega) | fail))) rfl ?_ | refine OW.pass (gd_undef rfl rfl rfl) rfl ?_ | (refine OW.split_dnot rfl rfl rfl ?_ ?_ <;> intro _ <;> try (exfalso; omega)) | (refine OW.split_dec rfl rfl rfl ?_ ?_ <;> intro _ <;> try (exfalso; omega)) | (refine OW.split rfl rfl rfl ?_ ?_ <;> intro _) | fail)) | (refine CW.d ?_; first | (refine dk 0 ?_; refine CW.seq ?_) | (refine dk 1 ?_; refine CW.region ?_) | (refine dk 3 ?_; first | refine CW.cond_true rfl (by (first | rfl | assumption | exact decide_eq_true (by first | assumption | omega) | exact decide_eq_false (by first | assumption | exact not_not_intro (by assumption) | omega) | fail)) ?_ | refine CW.cond_false rfl (by (first | rfl | assumption | exact decide_eq_true (by first | assumption | omega) | exact decide_eq_false (by first | assumption | exact not_not_intro (by assumption) | omega) | fail)) ?_ | (refine CW.cond_dnot rfl ?_ ?_ <;> intro _ <;> try (exfalso; omega)) | (refine CW.cond_dec rfl ?_ ?_ <;> intro _ <;> try (exfalso; omega)) | (refine CW.cond rfl ?_ ?_ <;> intro _) | fail) | (refine dk 7 ?_; refine CW.block ?_)) | refine OW.nil ?_ | refine PK.code_normal ?_ | refine RW.step rfl (gd_none rfl) rfl ?_ | fail)
  refine (fits_any hc n).same ?_
  repeat' (first | (refine St.d ?_; first | (refine dk 1 ?_; refine St.assign rfl ?_) | (refine dk 7 ?_; first | refine St.not_dec rfl ?_ | refine St.not rfl ?_ | fail)) | (refine OW.d ?_; first | (refine dk 0 ?_; refine OW.step (gd_none rfl) rfl ?_) | (refine dk 1 ?_; first | refine OW.step (gd_yes rfl rfl rfl (by (first | rfl | assumption | exact decide_eq_true (by first | assumption | omega) | exact decide_eq_false (by first | assumption | exact not_not_intro (by assumption) | omega) | fail))) rfl ?_ | refine OW.pass (gd_no rfl rfl rfl (by (first | rfl | assumption | exact decide_eq_true (by first | assumption | omega) | exact decide_eq_false (by first | assumption | exact not_not_intro (by assumption) | omega) | fail))) rfl ?_ | refine OW.pass (gd_undef rfl rfl rfl) rfl ?_ | (refine OW.split_dnot rfl rfl rfl ?_ ?_ <;> intro _ <;> try (exfalso; omega)) | (refine OW.split_dec rfl rfl rfl ?_ ?_ <;> intro _ <;> try (exfalso; omega)) | (refine OW.split rfl rfl rfl ?_ ?_ <;> intro _) | fail)) | (refine CW.d ?_; first | (refine dk 0 ?_; refine CW.seq ?_) | (refine dk 1 ?_; refine CW.region ?_) | (refine dk 3 ?_; first | refine CW.cond_true rfl (by (first | rfl | assumption | exact decide_eq_true (by first | assumption | omega) | exact decide_eq_false (by first | assumption | exact not_not_intro (by assumption) | omega) | fail)) ?_ | refine CW.cond_false rfl (by (first | rfl | assumption | exact decide_eq_true (by first | assumption | omega) | exact decide_eq_false (by first | assumption | exact not_not_intro (by assumption) | omega) | fail)) ?_ | (refine CW.cond_dnot rfl ?_ ?_ <;> intro _ <;> try (exfalso; omega)) | (refine CW.cond_dec rfl ?_ ?_ <;> intro _ <;> try (exfalso; omega)) | (refine CW.cond rfl ?_ ?_ <;> intro _) | fail) | (refine dk 4 ?_; refine CW.skip ?_) | (refine dk 5 ?_; refine CW.ret ?_)) | refine OW.nil ?_ | refine PK.code_normal ?_ | refine PK.blk_normal ?_ | refine PK.code_ret ?_ | refine PK.blk_ret ?_ | refine PK.nil_ret ?_ | refine RW.step rfl (gd_none rfl) rfl ?_ | fail)
  · rename_i hf
    refine ⟨_, ResOK.one rfl, ?_⟩
    rw [show learn n rows j c = (rows, 1) by unfold learn; rw [if_neg hr, if_neg hf]]
    exact ⟨rfl, k, Stp.refl _⟩
  rename_i hf
  obtain ⟨d, hd⟩ : ∃ d, rows[j]? = some d := ⟨_, List.getElem?_eq_getElem (by have := k.len; omega)⟩
  obtain ⟨w, hcw, hw, hdv, hdl, hwS⟩ := k.row hd
  have hl : learn n rows j c = (rows.set j (zipC max d c), 0) := by
    unfold learn; rw [if_neg hr, if_pos hf]; simp [List.getD, hd]
  rw [hl]
  obtain ⟨p1, cap1, rfl⟩ := hw.s.sl.shape
  repeat' (first | (refine St.d ?_; first | (refine dk 0 ?_; refine St.move rfl ?_) | (refine dk 4 ?_; first | refine St.fieldAddr0 pg rfl rfl rfl rfl ?_ | refine St.fieldAddr pg rfl rfl rfl rfl ?_ | fail) | (refine dk 2 ?_; first | refine St.load pg rfl rfl rfl (by (first | assumption | exact Blk.cel (by (repeat (first | assumption | exact New.blk (by assumption) | exact Upd.blk (by assumption) | (apply New.old; assumption) | (apply Upd.keep; assumption; (focus (first | assumption | exact Ne.symm (by assumption) | omega | (intro hne; simp only at hne; omega)))) | (apply Stp.blk0; assumption) | (apply Stp.blk1; assumption; (focus (first | assumption | exact Ne.symm (by assumption) | omega | (intro hne; simp only at hne; omega))))))) (by rfl) | exact Cels.fld (by assumption) (by rfl) | exact Cels.fld0 (by assumption) (by rfl) | (repeat (first | assumption | (apply New.oldc; assumption) | (apply Upd.keepc; assumption; (focus (first | assumption | exact Ne.symm (by assumption) | omega | (intro hne; simp only at hne; omega)))) | (apply Stp.cel0; assumption))))) (by first | exact List.not_mem_nil | assumption) rfl ?_ | refine St.loadS pg rfl rfl rfl (by first | assumption | exact Blk.cels0 (by (repeat (first | assumption | exact New.blk (by assumption) | exact Upd.blk (by assumption) | (apply New.old; assumption) | (apply Upd.keep; assumption; (focus (first | assumption | exact Ne.symm (by assumption) | omega | (intro hne; simp only at hne; omega)))) | (apply Stp.blk0; assumption) | (apply Stp.blk1; assumption; (focus (first | assumption | exact Ne.symm (by assumption) | omega | (intro hne; simp only at hne; omega)))))))) (by first | exact List.not_mem_nil | assumption) rfl rfl ?_ | fail) | (refine dk 5 ?_; refine St.nilCheck rfl ?_) | (refine dk 23 ?_; first | refine St.call pg rfl rfl rfl ?_ | refine St.call0 pg rfl rfl rfl ?_ | refine St.callX pg rfl rfl rfl ?_ | fail) | (refine dk 10 ?_; first | refine St.indexAddr1 pg rfl rfl rfl rfl rfl rfl rfl (by first | omega | decide | exact Nat.succ_pos _ | (show 0 < _; omega)) ?_ | refine St.indexAddr pg rfl rfl rfl rfl rfl rfl (by first | omega | decide | exact Nat.succ_pos _ | (show 0 < _; omega)) ?_ | refine St.indexAddrA1 pg rfl rfl rfl rfl rfl rfl rfl (by first | omega | decide) ?_ | fail) | (refine dk 29 ?_; refine St.buildSlice pg rfl rfl rfl rfl rfl rfl rfl (by (repeat (first | exact Fill.nil | (apply Fill.one; rfl; rfl; (focus (first | exact SetL.set (by assumption) | (repeat (first | exact SetL.z | apply SetL.s))))) | (apply Fill.agg; rfl; rfl; (focus (repeat (first | exact SetR.z | (apply SetR.c; (focus (first | exact SetL.set (by assumption) | (repeat (first | exact SetL.z | apply SetL.s)))))))))))) rfl ?_; intro _ _ _ _ _)) | (refine OW.d ?_; first | (refine dk 0 ?_; refine OW.step (gd_none rfl) rfl ?_) | (refine dk 1 ?_; first | refine OW.step (gd_yes rfl rfl rfl (by (first | rfl | assumption | exact decide_eq_true (by first | assumption | omega) | exact decide_eq_false (by first | assumption | exact not_not_intro (by assumption) | omega) | fail))) rfl ?_ | refine OW.pass (gd_no rfl rfl rfl (by (first | rfl | assumption | exact decide_eq_true (by first | assumption | omega) | exact decide_eq_false (by first | assumption | exact not_not_intro (by assumption) | omega) | fail))) rfl ?_ | refine OW.pass (gd_undef rfl rfl rfl) rfl ?_ | (refine OW.split_dnot rfl rfl rfl ?_ ?_ <;> intro _ <;> try (exfalso; omega)) | (refine OW.split_dec rfl rfl rfl ?_ ?_ <;> intro _ <;> try (exfalso; omega)) | (refine OW.split rfl rfl rfl ?_ ?_ <;> intro _) | fail)) | fail | refine RW.step rfl (gd_none rfl) rfl ?_ | (refine CW.d ?_; refine dk 2 ?_; refine CW.region_draw [] ord30 pg.mix (by kernel_rfl) (by kernel_rfl) ?_) | fail)
  rename_i nb h1 hn1 enb z1
  have hst1 : Stp [] h h1 := hn1.stp
  have hcl : clks.R h1 (fun _ => True) [.slice (some ⟨nb, 0, none⟩) 2 2] [d, c] := by
    refine clks_of (vs := [.slice p1 d.length cap1, .slice p c.length cap]) (Sl.ofBlk hn1.blk) rfl (by simp) (fun i e x he hx => ?_)
    match i, he, hx with
    | 0, he, hx => simp at he hx; subst he; subst hx; exact hw.grow hst1
    | 1, he, hx => simp at he hx; subst he; subst hx; exact hc.grow hst1
    | i + 2, he, _ => simp at he
  have hcn : c.length = n := by have := hf.2; omega
  have halk : alk [d, c] := ⟨by simp, fun e he => by
    simp at he
    rcases he with rfl | rfl
    · exact ⟨hdv, rfl⟩
    · exact ⟨hf.1, by simp; omega⟩⟩
  obtain ⟨hzv, hzl⟩ := zip_vld ⟨hdv, hdl⟩ ⟨hf.1, hcn⟩
  refine (join_any hcl).mono ?_
  rintro jv h2 hj
  rw [if_pos halk] at hj
  obtain ⟨hjo, hst2, hjn2⟩ := hj
  obtain ⟨L, hL, hLi, hput⟩ := (k.grow (hst1.trans hst2)).put hjn
  obtain ⟨p2, cap2, rfl⟩ := hjo.sl.shape
  have hji : IntS h2 (.slice p2 ([d, c].headD []).length cap2) (zipC max d c) := ⟨by
    have := hjo.sl
    rw [hzl]
    simp only [List.headD_cons, hdl] at this ⊢
    exact this⟩
  repeat' (first | (refine St.d ?_; first | (refine dk 1 ?_; refine St.assign rfl ?_) | (refine dk 3 ?_; first | (refine St.store pg rfl rfl rfl rfl rfl (by (repeat (first | assumption | exact New.blk (by assumption) | exact Upd.blk (by assumption) | (apply New.old; assumption) | (apply Upd.keep; assumption; (focus (first | assumption | exact Ne.symm (by assumption) | omega | (intro hne; simp only at hne; omega)))) | (apply Stp.blk0; assumption) | (apply Stp.blk1; assumption; (focus (first | assumption | exact Ne.symm (by assumption) | omega | (intro hne; simp only at hne; omega))))))) (by (first | exact SetL.set (by assumption) | (repeat (first | exact SetL.z | apply SetL.s)))) rfl ?_; intro _ _ _) | (refine St.storeS pg rfl rfl rfl rfl (by simp) (by first | (simp [Value.oneCell', *]; done) | (intro u hu; simp only [List.mem_cons, List.not_mem_nil, or_false] at hu; repeat' (first | (rcases hu with rfl | hu; first | rfl | assumption) | (subst hu; first | rfl | assumption)))) (by (repeat (first | assumption | exact New.blk (by assumption) | exact Upd.blk (by assumption) | (apply New.old; assumption) | (apply Upd.keep; assumption; (focus (first | assumption | exact Ne.symm (by assumption) | omega | (intro hne; simp only at hne; omega)))) | (apply Stp.blk0; assumption) | (apply Stp.blk1; assumption; (focus (first | assumption | exact Ne.symm (by assumption) | omega | (intro hne; simp only at hne; omega))))))) (by (repeat (first | exact SetR.z | (apply SetR.c; (focus (first | exact SetL.set (by assumption) | (repeat (first | exact SetL.z | apply SetL.s)))))))) rfl ?_; intro _ _ _) | fail) | (refine dk 10 ?_; first | refine St.indexAddr1 pg rfl rfl rfl rfl rfl rfl rfl (by first | omega | decide | exact Nat.succ_pos _ | (show 0 < _; omega)) ?_ | refine St.indexAddr pg rfl rfl rfl rfl rfl rfl (by first | omega | decide | exact Nat.succ_pos _ | (show 0 < _; omega)) ?_ | refine St.indexAddrA1 pg rfl rfl rfl rfl rfl rfl rfl (by first | omega | decide) ?_ | fail)) | (refine OW.d ?_; first | (refine dk 0 ?_; refine OW.step (gd_none rfl) rfl ?_) | (refine dk 1 ?_; first | refine OW.step (gd_yes rfl rfl rfl (by (first | rfl | assumption | exact decide_eq_true (by first | assumption | omega) | exact decide_eq_false (by first | assumption | exact not_not_intro (by assumption) | omega) | fail))) rfl ?_ | refine OW.pass (gd_no rfl rfl rfl (by (first | rfl | assumption | exact decide_eq_true (by first | assumption | omega) | exact decide_eq_false (by first | assumption | exact not_not_intro (by assumption) | omega) | fail))) rfl ?_ | refine OW.pass (gd_undef rfl rfl rfl) rfl ?_ | (refine OW.split_dnot rfl rfl rfl ?_ ?_ <;> intro _ <;> try (exfalso; omega)) | (refine OW.split_dec rfl rfl rfl ?_ ?_ <;> intro _ <;> try (exfalso; omega)) | (refine OW.split rfl rfl rfl ?_ ?_ <;> intro _) | fail)) | (refine CW.d ?_; first | (refine dk 0 ?_; refine CW.seq ?_) | (refine dk 1 ?_; refine CW.region ?_) | (refine dk 5 ?_; refine CW.ret ?_)) | refine OW.nil ?_ | refine PK.code_normal ?_ | refine PK.nil_ret ?_ | refine RW.done ?_ | refine RW.step rfl (gd_none rfl) rfl ?_ | (refine CW.d ?_; refine dk 2 ?_; refine CW.region_draw [] ord30 pg.mix (by kernel_rfl) (by kernel_rfl) ?_) | fail)
  rename_i h3 hu z3
  refine ⟨_, ResOK.one rfl, rfl, hput h3 _ _ hu hji (fun b hb hm => ?_) hzv hzl, Stp.upd hu (hst1.trans hst2).nil (.inl (by simp))⟩
  have h5 := hjn2 b (rdOf_blk hb)
  have h6 := hS b hm
  omega
end Go.Proofs.Ytaopehadegknoaa
