/- Clusters of nodes, and the contract of nodes; conditions: one to five replicas. -/
import Derived.Test.YtaopehadegknoaaEl5
namespace Go.Proofs.Ytaopehadegknoaa
open Go Go.CF
set_option maxRecDepth 20000

/-! ### Clusters -/
abbrev Nd := Nat × NodeS × List Nat
structure Cluster (h : Heap) (ns : List Nd) : Prop where
  at_ : ∀ (i : Nat) (x : Nd), ns[i]? = some x → NodeAt h x.1 x.2.1 x.2.2
  apart : ∀ (i j : Nat) (x y : Nd), ns[i]? = some x → ns[j]? = some y → i ≠ j → ∀ c ∈ x.2.2, c ∉ y.2.2
def foot (ns : List Nd) : List Nat := ns.flatMap fun x => x.2.2
def ptrs (ns : List Nd) : List Value := ns.map fun x => .pointer (some ⟨x.1, 0, none⟩)

theorem Cluster.nil {h : Heap} : Cluster h [] := ⟨fun i x hx => by simp at hx, fun i j x y hx => by simp at hx⟩
theorem Cluster.lt {h : Heap} {ns : List Nd} (hc : Cluster h ns) : ∀ c ∈ foot ns, c < h.size := by
  intro c hm
  simp only [foot, List.mem_flatMap] at hm
  obtain ⟨x, hx, hm⟩ := hm
  obtain ⟨i, hi⟩ := List.getElem?_of_mem hx
  exact (hc.at_ i x hi).lt c hm
theorem foot_mem {ns : List Nd} {i : Nat} {x : Nd} (hi : ns[i]? = some x) {c : Nat} (hc : c ∈ x.2.2) : c ∈ foot ns := by
  simp only [foot, List.mem_flatMap]; exact ⟨x, List.mem_of_getElem? hi, hc⟩
theorem Cluster.stp {fp : List Nat} {h h' : Heap} {ns : List Nd} (x : Stp fp h h') (hc : Cluster h ns) (hd : ∀ c ∈ foot ns, c ∉ fp) : Cluster h' ns :=
  ⟨fun i y hi => (hc.at_ i y hi).stp x (fun c hm => hd c (foot_mem hi hm)), hc.apart⟩
theorem Cluster.add {h : Heap} {ns : List Nd} (hc : Cluster h ns) {x : Nd} (hx : NodeAt h x.1 x.2.1 x.2.2) (hd : ∀ c ∈ x.2.2, c ∉ foot ns) : Cluster h (ns ++ [x]) := by
  have key : ∀ i y, (ns ++ [x])[i]? = some y → (ns[i]? = some y) ∨ (i = ns.length ∧ y = x) := by
    intro i y hi
    rw [List.getElem?_append] at hi
    split at hi
    · exact .inl hi
    · right
      have : i - ns.length = 0 := by
        cases hk : i - ns.length with
        | zero => rfl
        | succ k => rw [hk] at hi; simp at hi
      rw [this] at hi
      simp at hi
      exact ⟨by omega, hi.symm⟩
  refine ⟨fun i y hi => ?_, fun i j y z hi hj hij c hm hm' => ?_⟩
  · rcases key i y hi with h1 | ⟨_, rfl⟩
    · exact hc.at_ i y h1
    · exact hx
  · rcases key i y hi with h1 | ⟨h1, rfl⟩ <;> rcases key j z hj with h2 | ⟨h2, rfl⟩
    · exact hc.apart i j y z h1 h2 hij c hm hm'
    · exact hd c hm' (foot_mem h1 hm)
    · exact hd c hm (foot_mem h2 hm')
    · omega
/-- One node has moved. -/
theorem Cluster.set {h h' : Heap} {ns : List Nd} (hc : Cluster h ns) {i : Nat} {x : Nd} (hi : ns[i]? = some x) {s' : NodeS} {fp' : List Nat} (ht : NodeTo h h' x.1 s' x.2.2 fp') : Cluster h' (ns.set i (x.1, s', fp')) := by
  have hil := (List.getElem?_eq_some_iff.1 hi).1
  have key : ∀ j y, (ns.set i (x.1, s', fp'))[j]? = some y → (j ≠ i ∧ ns[j]? = some y) ∨ (j = i ∧ y = (x.1, s', fp')) := by
    intro j y hj
    rw [List.getElem?_set] at hj
    split at hj
    · rename_i e; subst e; simp at hj; exact .inr ⟨rfl, hj.symm⟩
    · rename_i e; exact .inl ⟨fun e' => e e'.symm, hj⟩
  refine ⟨fun j y hj => ?_, fun j k y z hj hk hjk c hm hm' => ?_⟩
  · rcases key j y hj with ⟨h1, h2⟩ | ⟨_, rfl⟩
    · exact (hc.at_ j y h2).stp ht.stp (fun c hm => hc.apart j i y x h2 hi h1 c hm)
    · exact ht.nod
  · rcases key j y hj with ⟨h1, h2⟩ | ⟨h1, rfl⟩ <;> rcases key k z hk with ⟨h3, h4⟩ | ⟨h3, rfl⟩
    · exact hc.apart j k y z h2 h4 hjk c hm hm'
    · rcases ht.new c hm' with h5 | h5
      · exact hc.apart j i y x h2 hi h1 c hm h5
      · have := (hc.at_ j y h2).lt c hm; omega
    · rcases ht.new c hm with h5 | h5
      · exact hc.apart k i z x h4 hi h3 c hm' h5
      · have := (hc.at_ k z h4).lt c hm'; omega
    · omega
theorem foot_set {ns : List Nd} {i : Nat} {x : Nd} {s' : NodeS} {fp' : List Nat} {c : Nat} (hc : c ∈ foot (ns.set i (x.1, s', fp'))) : c ∈ foot ns ∨ c ∈ fp' := by
  simp only [foot, List.mem_flatMap] at hc
  obtain ⟨y, hy, hc⟩ := hc
  rcases List.mem_or_eq_of_mem_set hy with h1 | rfl
  · exact .inl (by simp only [foot, List.mem_flatMap]; exact ⟨y, h1, hc⟩)
  · exact .inr hc
theorem ptrs_set {ns : List Nd} {i : Nat} {x : Nd} (hi : ns[i]? = some x) (s' : NodeS) (fp' : List Nat) : ptrs (ns.set i (x.1, s', fp')) = ptrs ns := by
  simp only [ptrs, List.map_set]
  apply List.ext_getElem?
  intro j
  rw [List.getElem?_set]
  split
  · rename_i e; subst e
    have hil := (List.getElem?_eq_some_iff.1 hi).1
    rw [List.getElem?_eq_getElem hil, Option.some.injEq] at hi
    simp [hil, hi]
  · rfl
theorem ptrs_get {ns : List Nd} {i : Nat} {x : Nd} (hi : ns[i]? = some x) : (ptrs ns)[i]? = some (.pointer (some ⟨x.1, 0, none⟩)) := by simp [ptrs, hi]
theorem ptrs_length (ns : List Nd) : (ptrs ns).length = ns.length := by simp [ptrs]

/-! ### nodes -/
theorem nodes_any {h : Heap} {n : Nat} (hn : 1 ≤ n ∧ n ≤ 5) :
    CallsH Try.prog 13 #[.int .i64 n] h fun r h' => ∃ ns : List Nd, ns.length = n ∧ (∀ (i : Nat) (x : Nd), ns[i]? = some x → x.2.1 = node0 n i 0 (-1)) ∧ Own h' r 27 1 n (ptrs ns) ∧ Cluster h' ns ∧ Stp [] h h' ∧
      (∀ c ∈ foot ns, h.size ≤ c) ∧ ∀ c ∈ blkOf r, h.size ≤ c ∧ c ∉ foot ns := by
  refine CallsH.of (l := [_]) Try.func13 rfl Try.ntmps13 Try.results13 rfl ?_
  repeat' (first | (refine St.d ?_; first | (refine dk 0 ?_; refine St.move rfl ?_) | (refine dk 1 ?_; refine St.assign rfl ?_) | (refine dk 23 ?_; first | refine St.call pg rfl rfl rfl ?_ | refine St.call0 pg rfl rfl rfl ?_ | refine St.callX pg rfl rfl rfl ?_ | fail) | (refine dk 6 ?_; first | refine St.pick_true rfl (by (first | rfl | assumption | exact decide_eq_true (by first | assumption | omega) | exact decide_eq_false (by first | assumption | exact not_not_intro (by assumption) | omega) | fail)) rfl ?_ | refine St.pick_false rfl (by (first | rfl | assumption | exact decide_eq_true (by first | assumption | omega) | exact decide_eq_false (by first | assumption | exact not_not_intro (by assumption) | omega) | fail)) rfl ?_ | fail) | (refine dk 12 ?_; first | refine St.eql rfl rfl ?_ | refine St.eql_pnil pg rfl rfl rfl rfl ?_ | refine St.eql_snil pg rfl rfl rfl rfl ?_ | refine St.beql pg rfl rfl rfl rfl ?_ | fail) | (refine dk 13 ?_; first | refine St.neq rfl rfl ?_ | refine St.neq_pnil pg rfl rfl rfl rfl ?_ | refine St.bneq pg rfl rfl rfl rfl ?_ | fail) | (refine dk 14 ?_; refine St.lss rfl rfl ?_) | (refine dk 18 ?_; refine St.add rfl rfl (by omega) ?_) | (refine dk 9 ?_; refine St.extract rfl rfl ?_) | (refine dk 29 ?_; refine St.buildSlice pg rfl rfl rfl rfl rfl rfl rfl (by (repeat (first | exact Fill.nil | (apply Fill.one; rfl; rfl; (focus (first | exact SetL.set (by assumption) | (repeat (first | exact SetL.z | apply SetL.s))))) | (apply Fill.agg; rfl; rfl; (focus (repeat (first | exact SetR.z | (apply SetR.c; (focus (first | exact SetL.set (by assumption) | (repeat (first | exact SetL.z | apply SetL.s)))))))))))) rfl ?_; intro _ _ _ _ _)) | (refine OW.d ?_; first | (refine dk 0 ?_; refine OW.step (gd_none rfl) rfl ?_) | (refine dk 1 ?_; first | refine OW.step (gd_yes rfl rfl rfl (by (first | rfl | assumption | exact decide_eq_true (by first | assumption | omega) | exact decide_eq_false (by first | assumption | exact not_not_intro (by assumption) | omega) | fail))) rfl ?_ | refine OW.pass (gd_no rfl rfl rfl (by (first | rfl | assumption | exact decide_eq_true (by first | assumption | omega) | exact decide_eq_false (by first | assumption | exact not_not_intro (by assumption) | omega) | fail))) rfl ?_ | refine OW.pass (gd_undef rfl rfl rfl) rfl ?_ | (refine OW.split_dnot rfl rfl rfl ?_ ?_ <;> intro _ <;> try (exfalso; omega)) | (refine OW.split_dec rfl rfl rfl ?_ ?_ <;> intro _ <;> try (exfalso; omega)) | (refine OW.split rfl rfl rfl ?_ ?_ <;> intro _) | fail)) | (refine CW.d ?_; first | (refine dk 0 ?_; refine CW.seq ?_) | (refine dk 1 ?_; refine CW.region ?_) | (refine dk 3 ?_; first | refine CW.cond_true rfl (by (first | rfl | assumption | exact decide_eq_true (by first | assumption | omega) | exact decide_eq_false (by first | assumption | exact not_not_intro (by assumption) | omega) | fail)) ?_ | refine CW.cond_false rfl (by (first | rfl | assumption | exact decide_eq_true (by first | assumption | omega) | exact decide_eq_false (by first | assumption | exact not_not_intro (by assumption) | omega) | fail)) ?_ | (refine CW.cond_dnot rfl ?_ ?_ <;> intro _ <;> try (exfalso; omega)) | (refine CW.cond_dec rfl ?_ ?_ <;> intro _ <;> try (exfalso; omega)) | (refine CW.cond rfl ?_ ?_ <;> intro _) | fail) | (refine dk 4 ?_; refine CW.skip ?_) | (refine dk 5 ?_; refine CW.ret ?_) | (refine dk 6 ?_; refine CW.exit ?_) | (refine dk 7 ?_; refine CW.block ?_)) | refine OW.nil ?_ | refine PK.code_normal ?_ | refine PK.blk_normal ?_ | refine PK.lp_normal ?_ | refine PK.code_ret ?_ | refine PK.blk_ret ?_ | refine PK.lp_ret ?_ | refine PK.code_exit ?_ | refine PK.lp_exit ?_ | refine PK.blk_exit ?_ | refine PK.blk_exit_ne rfl ?_ | refine PK.nil_normal ?_ | refine PK.nil_ret ?_ | fail | fail)
  refine CW.loop (fun x : Nat × Value => [(0, .int .i64 n), (3, x.2), (7, .int .i64 n), (8, .int .i64 x.1)])
    (fun x h' => x.1 ≤ n ∧ ∃ ns : List Nd, ns.length = x.1 ∧ (∀ (i : Nat) (y : Nd), ns[i]? = some y → y.2.1 = node0 n i 0 (-1)) ∧ Own h' x.2 27 1 x.1 (ptrs ns) ∧ Cluster h' ns ∧ Stp [] h h' ∧
      (∀ c ∈ foot ns, h.size ≤ c) ∧ ∀ c ∈ blkOf x.2, h.size ≤ c ∧ c ∉ foot ns) (fun x => n - x.1) (0, .slice none 0 0) (by (repeat (first | exact trivial | refine ⟨rfl, ?_⟩)))
    ⟨Nat.zero_le _, [], rfl, by simp, Own.nil, Cluster.nil, Stp.refl _, by simp [foot], by simp [blkOf]⟩ ?_
  rintro ⟨k, vo⟩ h1 ⟨hk, ns, hl, hs, ho, hc, hst, hf, hb⟩
  simp only at hk hl ho hb
  by_cases hkn : k < n
  · repeat' (first | (refine St.d ?_; first | (refine dk 0 ?_; refine St.move rfl ?_) | (refine dk 1 ?_; refine St.assign rfl ?_) | (refine dk 23 ?_; first | refine St.call pg rfl rfl rfl ?_ | refine St.call0 pg rfl rfl rfl ?_ | refine St.callX pg rfl rfl rfl ?_ | fail) | (refine dk 6 ?_; first | refine St.pick_true rfl (by (first | rfl | assumption | exact decide_eq_true (by first | assumption | omega) | exact decide_eq_false (by first | assumption | exact not_not_intro (by assumption) | omega) | fail)) rfl ?_ | refine St.pick_false rfl (by (first | rfl | assumption | exact decide_eq_true (by first | assumption | omega) | exact decide_eq_false (by first | assumption | exact not_not_intro (by assumption) | omega) | fail)) rfl ?_ | fail) | (refine dk 12 ?_; first | refine St.eql rfl rfl ?_ | refine St.eql_pnil pg rfl rfl rfl rfl ?_ | refine St.eql_snil pg rfl rfl rfl rfl ?_ | refine St.beql pg rfl rfl rfl rfl ?_ | fail) | (refine dk 13 ?_; first | refine St.neq rfl rfl ?_ | refine St.neq_pnil pg rfl rfl rfl rfl ?_ | refine St.bneq pg rfl rfl rfl rfl ?_ | fail) | (refine dk 14 ?_; refine St.lss rfl rfl ?_) | (refine dk 18 ?_; refine St.add rfl rfl (by omega) ?_) | (refine dk 9 ?_; refine St.extract rfl rfl ?_) | (refine dk 29 ?_; refine St.buildSlice pg rfl rfl rfl rfl rfl rfl rfl (by (repeat (first | exact Fill.nil | (apply Fill.one; rfl; rfl; (focus (first | exact SetL.set (by assumption) | (repeat (first | exact SetL.z | apply SetL.s))))) | (apply Fill.agg; rfl; rfl; (focus (repeat (first | exact SetR.z | (apply SetR.c; (focus (first | exact SetL.set (by assumption) | (repeat (first | exact SetL.z | apply SetL.s)))))))))))) rfl ?_; intro _ _ _ _ _)) | (refine OW.d ?_; first | (refine dk 0 ?_; refine OW.step (gd_none rfl) rfl ?_) | (refine dk 1 ?_; first | refine OW.step (gd_yes rfl rfl rfl (by (first | rfl | assumption | exact decide_eq_true (by first | assumption | omega) | exact decide_eq_false (by first | assumption | exact not_not_intro (by assumption) | omega) | fail))) rfl ?_ | refine OW.pass (gd_no rfl rfl rfl (by (first | rfl | assumption | exact decide_eq_true (by first | assumption | omega) | exact decide_eq_false (by first | assumption | exact not_not_intro (by assumption) | omega) | fail))) rfl ?_ | refine OW.pass (gd_undef rfl rfl rfl) rfl ?_ | (refine OW.split_dnot rfl rfl rfl ?_ ?_ <;> intro _ <;> try (exfalso; omega)) | (refine OW.split_dec rfl rfl rfl ?_ ?_ <;> intro _ <;> try (exfalso; omega)) | (refine OW.split rfl rfl rfl ?_ ?_ <;> intro _) | fail)) | (refine CW.d ?_; first | (refine dk 0 ?_; refine CW.seq ?_) | (refine dk 1 ?_; refine CW.region ?_) | (refine dk 3 ?_; first | refine CW.cond_true rfl (by (first | rfl | assumption | exact decide_eq_true (by first | assumption | omega) | exact decide_eq_false (by first | assumption | exact not_not_intro (by assumption) | omega) | fail)) ?_ | refine CW.cond_false rfl (by (first | rfl | assumption | exact decide_eq_true (by first | assumption | omega) | exact decide_eq_false (by first | assumption | exact not_not_intro (by assumption) | omega) | fail)) ?_ | (refine CW.cond_dnot rfl ?_ ?_ <;> intro _ <;> try (exfalso; omega)) | (refine CW.cond_dec rfl ?_ ?_ <;> intro _ <;> try (exfalso; omega)) | (refine CW.cond rfl ?_ ?_ <;> intro _) | fail) | (refine dk 4 ?_; refine CW.skip ?_) | (refine dk 5 ?_; refine CW.ret ?_) | (refine dk 6 ?_; refine CW.exit ?_) | (refine dk 7 ?_; refine CW.block ?_)) | refine OW.nil ?_ | refine PK.code_normal ?_ | refine PK.blk_normal ?_ | refine PK.lp_normal ?_ | refine PK.code_ret ?_ | refine PK.blk_ret ?_ | refine PK.lp_ret ?_ | refine PK.code_exit ?_ | refine PK.lp_exit ?_ | refine PK.blk_exit ?_ | refine PK.blk_exit_ne rfl ?_ | refine PK.nil_normal ?_ | refine PK.nil_ret ?_ | fail | fail)
    refine (new_ok (h := h1) (rep := n) (i := k) ⟨by omega, by omega, by omega, by omega, by omega, by omega, by omega, by omega, by omega⟩).mono ?_
    rintro _ h2 ⟨b, rfl, hb2, hst2, hnew⟩
    repeat' (first | (refine St.d ?_; first | (refine dk 0 ?_; refine St.move rfl ?_) | (refine dk 1 ?_; refine St.assign rfl ?_) | (refine dk 23 ?_; first | refine St.call pg rfl rfl rfl ?_ | refine St.call0 pg rfl rfl rfl ?_ | refine St.callX pg rfl rfl rfl ?_ | fail) | (refine dk 6 ?_; first | refine St.pick_true rfl (by (first | rfl | assumption | exact decide_eq_true (by first | assumption | omega) | exact decide_eq_false (by first | assumption | exact not_not_intro (by assumption) | omega) | fail)) rfl ?_ | refine St.pick_false rfl (by (first | rfl | assumption | exact decide_eq_true (by first | assumption | omega) | exact decide_eq_false (by first | assumption | exact not_not_intro (by assumption) | omega) | fail)) rfl ?_ | fail) | (refine dk 12 ?_; first | refine St.eql rfl rfl ?_ | refine St.eql_pnil pg rfl rfl rfl rfl ?_ | refine St.eql_snil pg rfl rfl rfl rfl ?_ | refine St.beql pg rfl rfl rfl rfl ?_ | fail) | (refine dk 13 ?_; first | refine St.neq rfl rfl ?_ | refine St.neq_pnil pg rfl rfl rfl rfl ?_ | refine St.bneq pg rfl rfl rfl rfl ?_ | fail) | (refine dk 14 ?_; refine St.lss rfl rfl ?_) | (refine dk 18 ?_; refine St.add rfl rfl (by omega) ?_) | (refine dk 9 ?_; refine St.extract rfl rfl ?_) | (refine dk 29 ?_; refine St.buildSlice pg rfl rfl rfl rfl rfl rfl rfl (by (repeat (first | exact Fill.nil | (apply Fill.one; rfl; rfl; (focus (first | exact SetL.set (by assumption) | (repeat (first | exact SetL.z | apply SetL.s))))) | (apply Fill.agg; rfl; rfl; (focus (repeat (first | exact SetR.z | (apply SetR.c; (focus (first | exact SetL.set (by assumption) | (repeat (first | exact SetL.z | apply SetL.s)))))))))))) rfl ?_; intro _ _ _ _ _)) | (refine OW.d ?_; first | (refine dk 0 ?_; refine OW.step (gd_none rfl) rfl ?_) | (refine dk 1 ?_; first | refine OW.step (gd_yes rfl rfl rfl (by (first | rfl | assumption | exact decide_eq_true (by first | assumption | omega) | exact decide_eq_false (by first | assumption | exact not_not_intro (by assumption) | omega) | fail))) rfl ?_ | refine OW.pass (gd_no rfl rfl rfl (by (first | rfl | assumption | exact decide_eq_true (by first | assumption | omega) | exact decide_eq_false (by first | assumption | exact not_not_intro (by assumption) | omega) | fail))) rfl ?_ | refine OW.pass (gd_undef rfl rfl rfl) rfl ?_ | (refine OW.split_dnot rfl rfl rfl ?_ ?_ <;> intro _ <;> try (exfalso; omega)) | (refine OW.split_dec rfl rfl rfl ?_ ?_ <;> intro _ <;> try (exfalso; omega)) | (refine OW.split rfl rfl rfl ?_ ?_ <;> intro _) | fail)) | (refine CW.d ?_; first | (refine dk 0 ?_; refine CW.seq ?_) | (refine dk 1 ?_; refine CW.region ?_) | (refine dk 3 ?_; first | refine CW.cond_true rfl (by (first | rfl | assumption | exact decide_eq_true (by first | assumption | omega) | exact decide_eq_false (by first | assumption | exact not_not_intro (by assumption) | omega) | fail)) ?_ | refine CW.cond_false rfl (by (first | rfl | assumption | exact decide_eq_true (by first | assumption | omega) | exact decide_eq_false (by first | assumption | exact not_not_intro (by assumption) | omega) | fail)) ?_ | (refine CW.cond_dnot rfl ?_ ?_ <;> intro _ <;> try (exfalso; omega)) | (refine CW.cond_dec rfl ?_ ?_ <;> intro _ <;> try (exfalso; omega)) | (refine CW.cond rfl ?_ ?_ <;> intro _) | fail) | (refine dk 4 ?_; refine CW.skip ?_) | (refine dk 5 ?_; refine CW.ret ?_) | (refine dk 6 ?_; refine CW.exit ?_) | (refine dk 7 ?_; refine CW.block ?_)) | refine OW.nil ?_ | refine PK.code_normal ?_ | refine PK.blk_normal ?_ | refine PK.lp_normal ?_ | refine PK.code_ret ?_ | refine PK.blk_ret ?_ | refine PK.lp_ret ?_ | refine PK.code_exit ?_ | refine PK.lp_exit ?_ | refine PK.blk_exit ?_ | refine PK.blk_exit_ne rfl ?_ | refine PK.nil_normal ?_ | refine PK.nil_ret ?_ | fail | fail)
    rename_i nb h3 hnb hnbe hnbs
    have hst3 : Stp [] h1 h3 := hst2.trans hnb.stp
    have hf1 := hc.lt
    refine St.d ?_
    refine dk 25 ?_
    refine St.append pg rfl rfl rfl rfl rfl rfl (ho.stp hst3 (by simp)) (Sl.ofBlk (l := [.pointer (some ⟨b, 0, none⟩)]) hnb.blk) (m := 1) rfl (by simp [Value.oneCell']) ?_ ?_ rfl ?_
    · show (_ + 1) * 8 ≤ _
      omega
    · omega
    intro v4 h4 happ
    have hb1 : ∀ c ∈ blkOf vo, c < h1.size := ho.lt
    have hst4 : Stp (blkOf vo) h1 h4 := Stp.stp happ.stp (hst3.mono (by simp)) (fun c hc => .inl hc)
    have hns : ptrs (ns ++ [(b, node0 n k 0 (-1), [b])]) = ptrs ns ++ [.pointer (some ⟨b, 0, none⟩)] := by simp [ptrs]
    have hfn : ∀ c, c ∈ foot (ns ++ [(b, node0 n k 0 (-1), [b])]) → c ∈ foot ns ∨ c = b := by intro c hc; simpa [foot] using hc
    have hbv : b ∉ blkOf vo := fun hm => by have := hb1 b hm; omega
    have hsz3 := hst3.size
    have hsz0 := hst.size
    have hbl := hb2.lt b (by simp)
    repeat' (first | (refine St.d ?_; first | (refine dk 0 ?_; refine St.move rfl ?_) | (refine dk 1 ?_; refine St.assign rfl ?_) | (refine dk 23 ?_; first | refine St.call pg rfl rfl rfl ?_ | refine St.call0 pg rfl rfl rfl ?_ | refine St.callX pg rfl rfl rfl ?_ | fail) | (refine dk 6 ?_; first | refine St.pick_true rfl (by (first | rfl | assumption | exact decide_eq_true (by first | assumption | omega) | exact decide_eq_false (by first | assumption | exact not_not_intro (by assumption) | omega) | fail)) rfl ?_ | refine St.pick_false rfl (by (first | rfl | assumption | exact decide_eq_true (by first | assumption | omega) | exact decide_eq_false (by first | assumption | exact not_not_intro (by assumption) | omega) | fail)) rfl ?_ | fail) | (refine dk 12 ?_; first | refine St.eql rfl rfl ?_ | refine St.eql_pnil pg rfl rfl rfl rfl ?_ | refine St.eql_snil pg rfl rfl rfl rfl ?_ | refine St.beql pg rfl rfl rfl rfl ?_ | fail) | (refine dk 13 ?_; first | refine St.neq rfl rfl ?_ | refine St.neq_pnil pg rfl rfl rfl rfl ?_ | refine St.bneq pg rfl rfl rfl rfl ?_ | fail) | (refine dk 14 ?_; refine St.lss rfl rfl ?_) | (refine dk 18 ?_; refine St.add rfl rfl (by omega) ?_) | (refine dk 9 ?_; refine St.extract rfl rfl ?_) | (refine dk 29 ?_; refine St.buildSlice pg rfl rfl rfl rfl rfl rfl rfl (by (repeat (first | exact Fill.nil | (apply Fill.one; rfl; rfl; (focus (first | exact SetL.set (by assumption) | (repeat (first | exact SetL.z | apply SetL.s))))) | (apply Fill.agg; rfl; rfl; (focus (repeat (first | exact SetR.z | (apply SetR.c; (focus (first | exact SetL.set (by assumption) | (repeat (first | exact SetL.z | apply SetL.s)))))))))))) rfl ?_; intro _ _ _ _ _)) | (refine OW.d ?_; first | (refine dk 0 ?_; refine OW.step (gd_none rfl) rfl ?_) | (refine dk 1 ?_; first | refine OW.step (gd_yes rfl rfl rfl (by (first | rfl | assumption | exact decide_eq_true (by first | assumption | omega) | exact decide_eq_false (by first | assumption | exact not_not_intro (by assumption) | omega) | fail))) rfl ?_ | refine OW.pass (gd_no rfl rfl rfl (by (first | rfl | assumption | exact decide_eq_true (by first | assumption | omega) | exact decide_eq_false (by first | assumption | exact not_not_intro (by assumption) | omega) | fail))) rfl ?_ | refine OW.pass (gd_undef rfl rfl rfl) rfl ?_ | (refine OW.split_dnot rfl rfl rfl ?_ ?_ <;> intro _ <;> try (exfalso; omega)) | (refine OW.split_dec rfl rfl rfl ?_ ?_ <;> intro _ <;> try (exfalso; omega)) | (refine OW.split rfl rfl rfl ?_ ?_ <;> intro _) | fail)) | (refine CW.d ?_; first | (refine dk 0 ?_; refine CW.seq ?_) | (refine dk 1 ?_; refine CW.region ?_) | (refine dk 3 ?_; first | refine CW.cond_true rfl (by (first | rfl | assumption | exact decide_eq_true (by first | assumption | omega) | exact decide_eq_false (by first | assumption | exact not_not_intro (by assumption) | omega) | fail)) ?_ | refine CW.cond_false rfl (by (first | rfl | assumption | exact decide_eq_true (by first | assumption | omega) | exact decide_eq_false (by first | assumption | exact not_not_intro (by assumption) | omega) | fail)) ?_ | (refine CW.cond_dnot rfl ?_ ?_ <;> intro _ <;> try (exfalso; omega)) | (refine CW.cond_dec rfl ?_ ?_ <;> intro _ <;> try (exfalso; omega)) | (refine CW.cond rfl ?_ ?_ <;> intro _) | fail) | (refine dk 4 ?_; refine CW.skip ?_) | (refine dk 5 ?_; refine CW.ret ?_) | (refine dk 6 ?_; refine CW.exit ?_) | (refine dk 7 ?_; refine CW.block ?_)) | refine OW.nil ?_ | refine PK.code_normal ?_ | refine PK.blk_normal ?_ | refine PK.lp_normal ?_ | refine PK.code_ret ?_ | refine PK.blk_ret ?_ | refine PK.lp_ret ?_ | refine PK.code_exit ?_ | refine PK.lp_exit ?_ | refine PK.blk_exit ?_ | refine PK.blk_exit_ne rfl ?_ | refine PK.nil_normal ?_ | refine PK.nil_ret ?_ | fail | fail)
    refine ⟨(k + 1, v4), by (repeat (first | exact trivial | refine ⟨rfl, ?_⟩)), ⟨hkn, ns ++ [(b, node0 n k 0 (-1), [b])], by simp [hl], ?_, ?_, ?_, ?_, ?_, ?_⟩, by simp; omega⟩
    · intro i y hi
      rw [List.getElem?_append] at hi
      split at hi
      · exact hs i y hi
      · have : i - ns.length = 0 := by
          cases hk : i - ns.length with
          | zero => rfl
          | succ k => rw [hk] at hi; simp at hi
        rw [this] at hi
        simp at hi
        have : i = k := by omega
        subst this; rw [← hi]
    · rw [hns]; exact happ.own
    · refine (hc.stp hst4 (fun c hm hm' => (hb c hm').2 hm)).add (x := (b, node0 n k 0 (-1), [b])) ?_ ?_
      · exact (hb2.stp (hnb.stp (fp := [])) (by simp)).stp happ.stp (by simpa using hbv)
      · intro c hm hm'
        simp at hm; subst hm
        have := hf1 c hm'; omega
    · exact Stp.stp hst4 hst (fun c hc => .inr (hb c hc).1)
    · intro c hm
      rcases hfn c hm with h5 | rfl
      · exact hf c h5
      · omega
    · intro c hm
      rcases happ.blk with h8 | h8
      · have h9 := hb c (h8 ▸ hm)
        refine ⟨h9.1, fun h10 => ?_⟩
        rcases hfn c h10 with h11 | rfl
        · exact h9.2 h11
        · exact hbv (h8 ▸ hm)
      · have h9 := h8 c hm
        refine ⟨by omega, fun h10 => ?_⟩
        rcases hfn c h10 with h11 | rfl
        · have := hf1 c h11; omega
        · omega
  · repeat' (first | (refine St.d ?_; first | (refine dk 0 ?_; refine St.move rfl ?_) | (refine dk 1 ?_; refine St.assign rfl ?_) | (refine dk 23 ?_; first | refine St.call pg rfl rfl rfl ?_ | refine St.call0 pg rfl rfl rfl ?_ | refine St.callX pg rfl rfl rfl ?_ | fail) | (refine dk 6 ?_; first | refine St.pick_true rfl (by (first | rfl | assumption | exact decide_eq_true (by first | assumption | omega) | exact decide_eq_false (by first | assumption | exact not_not_intro (by assumption) | omega) | fail)) rfl ?_ | refine St.pick_false rfl (by (first | rfl | assumption | exact decide_eq_true (by first | assumption | omega) | exact decide_eq_false (by first | assumption | exact not_not_intro (by assumption) | omega) | fail)) rfl ?_ | fail) | (refine dk 12 ?_; first | refine St.eql rfl rfl ?_ | refine St.eql_pnil pg rfl rfl rfl rfl ?_ | refine St.eql_snil pg rfl rfl rfl rfl ?_ | refine St.beql pg rfl rfl rfl rfl ?_ | fail) | (refine dk 13 ?_; first | refine St.neq rfl rfl ?_ | refine St.neq_pnil pg rfl rfl rfl rfl ?_ | refine St.bneq pg rfl rfl rfl rfl ?_ | fail) | (refine dk 14 ?_; refine St.lss rfl rfl ?_) | (refine dk 18 ?_; refine St.add rfl rfl (by omega) ?_) | (refine dk 9 ?_; refine St.extract rfl rfl ?_) | (refine dk 29 ?_; refine St.buildSlice pg rfl rfl rfl rfl rfl rfl rfl (by (repeat (first | exact Fill.nil | (apply Fill.one; rfl; rfl; (focus (first | exact SetL.set (by assumption) | (repeat (first | exact SetL.z | apply SetL.s))))) | (apply Fill.agg; rfl; rfl; (focus (repeat (first | exact SetR.z | (apply SetR.c; (focus (first | exact SetL.set (by assumption) | (repeat (first | exact SetL.z | apply SetL.s)))))))))))) rfl ?_; intro _ _ _ _ _)) | (refine OW.d ?_; first | (refine dk 0 ?_; refine OW.step (gd_none rfl) rfl ?_) | (refine dk 1 ?_; first | refine OW.step (gd_yes rfl rfl rfl (by (first | rfl | assumption | exact decide_eq_true (by first | assumption | omega) | exact decide_eq_false (by first | assumption | exact not_not_intro (by assumption) | omega) | fail))) rfl ?_ | refine OW.pass (gd_no rfl rfl rfl (by (first | rfl | assumption | exact decide_eq_true (by first | assumption | omega) | exact decide_eq_false (by first | assumption | exact not_not_intro (by assumption) | omega) | fail))) rfl ?_ | refine OW.pass (gd_undef rfl rfl rfl) rfl ?_ | (refine OW.split_dnot rfl rfl rfl ?_ ?_ <;> intro _ <;> try (exfalso; omega)) | (refine OW.split_dec rfl rfl rfl ?_ ?_ <;> intro _ <;> try (exfalso; omega)) | (refine OW.split rfl rfl rfl ?_ ?_ <;> intro _) | fail)) | (refine CW.d ?_; first | (refine dk 0 ?_; refine CW.seq ?_) | (refine dk 1 ?_; refine CW.region ?_) | (refine dk 3 ?_; first | refine CW.cond_true rfl (by (first | rfl | assumption | exact decide_eq_true (by first | assumption | omega) | exact decide_eq_false (by first | assumption | exact not_not_intro (by assumption) | omega) | fail)) ?_ | refine CW.cond_false rfl (by (first | rfl | assumption | exact decide_eq_true (by first | assumption | omega) | exact decide_eq_false (by first | assumption | exact not_not_intro (by assumption) | omega) | fail)) ?_ | (refine CW.cond_dnot rfl ?_ ?_ <;> intro _ <;> try (exfalso; omega)) | (refine CW.cond_dec rfl ?_ ?_ <;> intro _ <;> try (exfalso; omega)) | (refine CW.cond rfl ?_ ?_ <;> intro _) | fail) | (refine dk 4 ?_; refine CW.skip ?_) | (refine dk 5 ?_; refine CW.ret ?_) | (refine dk 6 ?_; refine CW.exit ?_) | (refine dk 7 ?_; refine CW.block ?_)) | refine OW.nil ?_ | refine PK.code_normal ?_ | refine PK.blk_normal ?_ | refine PK.lp_normal ?_ | refine PK.code_ret ?_ | refine PK.blk_ret ?_ | refine PK.lp_ret ?_ | refine PK.code_exit ?_ | refine PK.lp_exit ?_ | refine PK.blk_exit ?_ | refine PK.blk_exit_ne rfl ?_ | refine PK.nil_normal ?_ | refine PK.nil_ret ?_ | fail | fail)
    have : k = n := by omega
    subst this
    exact ⟨_, ResOK.one rfl, ns, hl, hs, ho, hc, hst, hf, hb⟩
end Go.Proofs.Ytaopehadegknoaa
