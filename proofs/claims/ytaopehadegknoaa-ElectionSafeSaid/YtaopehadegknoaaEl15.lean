/- The state of ElectionSafe's cluster in the heap, and what its steps leave; conditions: those of the functions called. -/
import Derived.Test.YtaopehadegknoaaEl14
import Derived.Test.YtaopehadegknoaaEleV
import Derived.Test.YtaopehadegknoaaArr
namespace Go.Proofs.Ytaopehadegknoaa
open Go Go.CF
set_option maxRecDepth 20000

def pvs (bs : List Nat) : List Value := bs.map fun b => .pointer (some ⟨b, 0, none⟩)
theorem pvs_ptrs (ns : List Nd) : ptrs ns = pvs (ns.map (·.1)) := by simp [ptrs, pvs]

/-- What stays: blocks and sizes. -/
structure Fix (base : Heap) (lb IB TB MB n N0 : Nat) (vp : Option Addr) (vcap : Nat) : Prop where
  ks : ∀ c ∈ [lb, IB, TB, MB], base.size ≤ c ∧ c < N0
  nd : lb ≠ IB ∧ lb ≠ TB ∧ lb ≠ MB ∧ IB ≠ MB ∧ TB ≠ MB
  vo : ∀ c ∈ rdOf (.slice vp n vcap), c < N0 ∧ c ≠ lb ∧ c ≠ MB
  b0 : base.size ≤ N0
  n5 : 1 ≤ n ∧ n ≤ 5

structure SafeSt (base h : Heap) (lb lo lcap n : Nat) (vp : Option Addr) (vcap : Nat) (bs : List Nat) (ss : List NodeS) (IB TB MB : Nat) (bv : Value) (box : List Msg) (kvs : List (Int × Value)) (f g : Nat → Int) (N0 B : Nat) : Prop where
  u : Uni base h (.slice (some ⟨lb, lo, none⟩) n lcap) (.slice vp n vcap) bs ss (rngI n) (blkOf bv ++ [lb, IB, TB, MB])
  ol : Own h (.slice (some ⟨lb, lo, none⟩) n lcap) 27 1 n (pvs bs)
  bI : Blk h IB 3 (intsV (arr f n n))
  bT : Blk h TB 3 (intsV (arr g n n))
  mp : MapI h MB .i64 kvs
  ms : MsgS h bv box
  nb : ∀ c ∈ blkOf bv, N0 ≤ c
  sz : N0 ≤ h.size
  si : SI n B ss box kvs
  bl : bs.length = n

section
variable {base h h' : Heap} {lb lo lcap n : Nat} {vp : Option Addr} {vcap : Nat} {bs : List Nat} {ss : List NodeS} {IB TB MB : Nat} {bv : Value} {box : List Msg} {kvs : List (Int × Value)} {f g : Nat → Int} {N0 B : Nat}

theorem SafeSt.more (x : Stp [] h h') (s : SafeSt base h lb lo lcap n vp vcap bs ss IB TB MB bv box kvs f g N0 B) : SafeSt base h' lb lo lcap n vp vcap bs ss IB TB MB bv box kvs f g N0 B :=
  ⟨s.u.more x, s.ol.stp x (by simp), x.blk0 s.bI, x.blk0 s.bT, s.mp.stp x (by simp), ⟨s.ms.own.stp x (by simp)⟩, s.nb, Nat.le_trans s.sz x.size, s.si, s.bl⟩
theorem SafeSt.upB {C : Nat} (s : SafeSt base h lb lo lcap n vp vcap bs ss IB TB MB bv box kvs f g N0 B) (hC : B ≤ C) : SafeSt base h lb lo lcap n vp vcap bs ss IB TB MB bv box kvs f g N0 C :=
  ⟨s.u, s.ol, s.bI, s.bT, s.mp, s.ms, s.nb, s.sz, s.si.sub (fun _ h => h) hC, s.bl⟩
theorem SafeSt.part {bv2 : Value} {box2 : List Msg} (s : SafeSt base h lb lo lcap n vp vcap bs ss IB TB MB bv box kvs f g N0 B) (hm : MsgS h bv2 box2) (hb : ∀ c ∈ blkOf bv2, c ∈ blkOf bv) (hx : ∀ m ∈ box2, m ∈ box) : SafeSt base h lb lo lcap n vp vcap bs ss IB TB MB bv2 box2 kvs f g N0 B :=
  ⟨s.u.sub (fun c hc => by
    rcases List.mem_append.1 hc with h1 | h1
    · exact List.mem_append_left _ (hb c h1)
    · exact List.mem_append_right _ h1), s.ol, s.bI, s.bT, s.mp, hm, fun c hc => s.nb c (hb c hc), s.sz, s.si.sub hx (Nat.le_refl _), s.bl⟩
theorem SafeSt.turned {bv2 : Value} {box2 : List Msg} (x : Fix base lb IB TB MB n N0 vp vcap) (s : SafeSt base h lb lo lcap n vp vcap bs ss IB TB MB bv box kvs f g N0 B) (hst : Stp (blkOf bv) h h') (hm : MsgS h' bv2 box2) (hb : blkOf bv2 = blkOf bv) (hx : ∀ m ∈ box2, m ∈ box) :
    SafeSt base h' lb lo lcap n vp vcap bs ss IB TB MB bv2 box2 kvs f g N0 B := by
  have hK : ∀ c ∈ [lb, IB, TB, MB], c ∉ blkOf bv := fun c hc hm => by have := (x.ks c hc).2; have := s.nb c hm; omega
  refine ⟨s.u.stp hst (fun c hc => .inl (List.mem_append_left _ hc)) (fun c hc => by have := s.nb c hc; have := x.b0; omega) (fun c hc hm => ?_) (fun c hc hm => by have := (x.vo c hc).1; have := s.nb c hm; omega) (fun c hc => ?_), s.ol.stp hst (fun c hc => hK c (by simp [blkOf] at hc; simp [hc])), hst.blk s.bI (hK _ (by simp)), hst.blk s.bT (hK _ (by simp)), s.mp.stp hst (hK _ (by simp)), hm, fun c hc => s.nb c (hb ▸ hc), Nat.le_trans s.sz hst.size, s.si.sub hx (Nat.le_refl _), s.bl⟩
  · have h1 := rdOf_blk hc
    simp [blkOf] at h1
    exact hK c (by simp [h1]) hm
  · rcases List.mem_append.1 hc with h1 | h1
    · exact .inl (List.mem_append_left _ (hb ▸ h1))
    · exact .inl (List.mem_append_right _ h1)
/-- A node's call and the appending of its messages. -/
theorem SafeSt.called {h2 : Heap} {ro bv2 : Value} {out box0 : List Msg} {i : Nat} {s s' : NodeS} (x : Fix base lb IB TB MB n N0 vp vcap) (st : SafeSt base h lb lo lcap n vp vcap bs ss IB TB MB bv box kvs f g N0 B)
    (hu : Uni base h' (.slice (some ⟨lb, lo, none⟩) n lcap) (.slice vp n vcap) bs (ss.set i s') (rngI n) (blkOf ro ++ (blkOf bv ++ [lb, IB, TB, MB]))) (ho : Off (blkOf bv ++ [lb, IB, TB, MB]) h h')
    (happ : App h' h2 bv bv2 39 18 (box.length + out.length) (msgsV box ++ msgsV out)) (hs : ss[i]? = some s) (hsi : SI n B ss box0 kvs) (hb0 : ∀ m ∈ box, m ∈ box0) (hstep : ∀ V, VN V n B i s → (∀ m ∈ box0, VM V n m) → ∃ W, Step V n B i s' out W) :
    SafeSt base h2 lb lo lcap n vp vcap bs (ss.set i s') IB TB MB bv2 (box ++ out) kvs f g N0 (B + 1) := by
  have hK : ∀ c ∈ [lb, IB, TB, MB], c ∉ blkOf bv := fun c hc hm => by have := (x.ks c hc).2; have := st.nb c hm; omega
  have hkk : ∀ c ∈ [lb, IB, TB, MB], c ∈ blkOf bv ++ [lb, IB, TB, MB] := fun c hc => List.mem_append_right _ hc
  have hszo : h.size ≤ h'.size := by obtain ⟨_, y, _⟩ := ho; exact y.size
  refine ⟨hu.app happ (fun c hc => List.mem_append_right _ (List.mem_append_left _ hc)) (fun c hc => ⟨by have := st.nb c hc; have := x.b0; omega, fun hm => ?_, fun hm => by have := (x.vo c hm).1; have := st.nb c hc; omega⟩) (fun c hc => List.mem_append_right _ (hkk c hc)),
    (ho.own st.ol (fun c hc => hkk c (by simp [blkOf] at hc; simp [hc]))).stp happ.stp (fun c hc => hK c (by simp [blkOf] at hc; simp [hc])), happ.stp.blk (ho.blk st.bI (hkk _ (by simp))) (hK _ (by simp)), happ.stp.blk (ho.blk st.bT (hkk _ (by simp))) (hK _ (by simp)), ?_, MsgS.app happ, fun c hc => ?_, by have := st.sz; have := happ.stp.size; omega, hsi.step hb0 hs hstep, st.bl⟩
  · have h1 := rdOf_blk hm
    simp [blkOf] at h1
    exact hK c (by simp [h1]) hc
  · obtain ⟨F, hF, hn⟩ := ho
    exact (st.mp.stp hF (hn _ (hkk _ (by simp)))).stp happ.stp (hK _ (by simp))
  · rcases happ.blk with h8 | h8
    · exact st.nb c (h8 ▸ hc)
    · have := h8 c hc; have := st.sz; omega
/-- The leaders that have been seen. -/
theorem SafeSt.noted {kvs2 : List (Int × Value)} (x : Fix base lb IB TB MB n N0 vp vcap) (s : SafeSt base h lb lo lcap n vp vcap bs ss IB TB MB bv box kvs f g N0 B) (hst : Stp [MB] h h') (hm : MapI h' MB .i64 kvs2) (hsi : SI n B ss box kvs2) :
    SafeSt base h' lb lo lcap n vp vcap bs ss IB TB MB bv box kvs2 f g N0 B := by
  have hMB := (x.ks MB (by simp)).2
  obtain ⟨d1, d2, d3, d4, d5⟩ := x.nd
  have hb : ∀ c ∈ blkOf bv, c ∉ [MB] := fun c hc hm => by simp at hm; have := s.nb c hc; omega
  refine ⟨s.u.stp hst (fun c hc => .inl (List.mem_append_right _ (by simp at hc; simp [hc]))) (fun c hc => by simp at hc; subst hc; exact (x.ks c (by simp)).1) (fun c hc hm => ?_) (fun c hc hm => by simp at hm; exact (x.vo c hc).2.2 hm) (fun c hc => .inl hc), s.ol.stp hst (fun c hc hm => by simp [blkOf] at hc hm; omega), hst.blk s.bI (by simpa using d4), hst.blk s.bT (by simpa using d5), hm, ⟨s.ms.own.stp hst hb⟩, s.nb, Nat.le_trans s.sz hst.size, hsi, s.bl⟩
  have h1 := rdOf_blk hc
  simp [blkOf] at h1
  simp at hm
  omega

theorem Cluster.rep {ns : List Nd} (hc : Cluster h ns) {i nb : Nat} {z : NodeS} (hn : NodeAt h nb z [nb]) (hf : nb ∉ foot ns) : Cluster h (ns.set i (nb, z, [nb])) := by
  have key : ∀ j y, (ns.set i (nb, z, [nb]))[j]? = some y → (j ≠ i ∧ ns[j]? = some y) ∨ (j = i ∧ y = (nb, z, [nb])) := by
    intro j y hj
    rw [List.getElem?_set] at hj
    split at hj
    · rename_i e; subst e
      split at hj
      · cases hj; exact .inr ⟨rfl, rfl⟩
      · cases hj
    · rename_i e; exact .inl ⟨fun e' => e e'.symm, hj⟩
  refine ⟨fun j y hj => ?_, fun j k y w hj hk hjk c hm hm' => ?_⟩
  · rcases key j y hj with ⟨_, h2⟩ | ⟨_, rfl⟩
    · exact hc.at_ j y h2
    · exact hn
  · rcases key j y hj with ⟨h1, h2⟩ | ⟨h1, rfl⟩ <;> rcases key k w hk with ⟨h3, h4⟩ | ⟨h3, rfl⟩
    · exact hc.apart j k y w h2 h4 hjk c hm hm'
    · simp at hm'; subst hm'; exact hf (foot_mem h2 hm)
    · simp at hm; subst hm; exact hf (foot_mem h4 hm')
    · omega
theorem getElem_set_list {α : Type} {l : List α} {k j : Nat} {v : α} : (l.set k v)[j]? = if k = j then (if k < l.length then some v else none) else l[j]? := by
  rw [List.getElem?_set]

/-- A node has been replaced by a restored one. -/
theorem SafeSt.replaced {hA : Heap} {k nb : Nat} {z : NodeS} {L : List Value} (x : Fix base lb IB TB MB n N0 vp vcap) (s : SafeSt base h lb lo lcap n vp vcap bs ss IB TB MB bv box kvs f g N0 B) (hk : k < n)
    (hst : Stp [] h hA) (hn : NodeAt hA nb z [nb]) (hnb : h.size ≤ nb) (hL : Blk hA lb 27 L) (hu : Upd hA lb 27 (L.set (lo + k) (.pointer (some ⟨nb, 0, none⟩))) h') (hsi : SI n B (ss.set k z) box kvs) :
    SafeSt base h' lb lo lcap n vp vcap (bs.set k nb) (ss.set k z) IB TB MB bv box kvs f g N0 B := by
  obtain ⟨d1, d2, d3, d4, d5⟩ := x.nd
  have hlb := x.ks lb (by simp)
  have s2 := s.more hst
  have hbb : ∀ c ∈ blkOf bv, c ∉ [lb] := fun c hc hm => by simp at hm; have := s.nb c hc; omega
  have hol : Own h' (.slice (some ⟨lb, lo, none⟩) n lcap) 27 1 n (pvs (bs.set k nb)) := by
    rcases s2.ol.ok with ⟨h1, _⟩ | ⟨b', o', cap', l, he, hb, h1, h2, h3⟩
    · cases h1
    cases he
    have : l = L := by
      have e1 := hb.get
      rw [hL.get] at e1
      simp only [Option.some.injEq, Obj.cells.injEq] at e1
      exact (List.toArray_inj e1.1).symm
    subst this
    refine ⟨by simp [pvs, s.bl], .inr ⟨lb, lo, lcap, _, rfl, hu.blk, by rw [List.length_set]; exact h1, h2, ?_⟩⟩
    apply List.ext_getElem?
    intro j
    have h4 := congrArg (fun q => q[j]?) h3
    simp only [List.getElem?_take, List.getElem?_drop, pvs, List.map_set, List.getElem?_set, List.length_map, s.bl] at h4 ⊢
    have hll : lo + k < l.length := by omega
    by_cases hj : j < n * 1
    · rw [if_pos hj] at h4 ⊢
      by_cases hkj : k = j
      · subst hkj
        simp [hll, hk]
      · rw [if_neg (by omega), if_neg hkj]
        exact h4
    · rw [if_neg hj] at h4 ⊢
      rw [if_neg (by omega)]
      exact h4
  obtain ⟨ns, rfl, rfl, hsys, hst0, hnew, hkeep⟩ := s.u.ok
  have hfl := hsys.cl.lt
  have hkl : k < ns.length := by have := s.bl; simp at this; omega
  have hfn : ∀ c, c ∈ foot (ns.set k (nb, z, [nb])) → c ∈ foot ns ∨ c = nb := by
    intro c hc
    rcases foot_set (ns := ns) (i := k) (x := (nb, z, [nb])) (s' := z) (fp' := [nb]) hc with h1 | h1
    · exact .inl h1
    · exact .inr (by simpa using h1)
  have hnbl := hn.lt nb (by simp)
  have hlbf : lb ∉ foot ns := (hkeep lb (by simp)).2
  have hlbl := (hkeep lb (by simp)).1
  have hnbf : nb ∉ foot ns := fun hm => by have := hfl nb hm; omega
  have hnf : ∀ c ∈ foot (ns.set k (nb, z, [nb])), c ∉ [lb] := by
    intro c hc hm
    simp at hm; subst hm
    rcases hfn c hc with h1 | h1
    · exact hlbf h1
    · omega
  have hszA := hst.size
  have hszu := hu.stp.size
  have hcl : Cluster h' (ns.set k (nb, z, [nb])) := ((hsys.cl.stp hst (by simp)).rep hn hnbf).stp hu.stp hnf
  have hvv : ∀ c ∈ rdOf (.slice vp n vcap), c < h.size := hsys.vo.sl.lt
  refine ⟨⟨ns.set k (nb, z, [nb]), by rw [List.map_set], by rw [List.map_set], ⟨hcl, ?_, (hsys.vo.stp hst (by simp)).stp hu.stp (fun c hc hm => by simp at hm; exact (x.vo c hc).2.1 hm), fun c hc hm => ?_, fun c hc hm => ?_⟩, ?_, fun c hc => ?_, fun c hc => ?_⟩, hol, hu.keep d1.symm s2.bI, hu.keep d2.symm s2.bT, s2.mp.upd hu (Ne.symm d3), ⟨s2.ms.own.stp hu.stp hbb⟩, s.nb, by have := s2.sz; omega, hsi, by have := s.bl; simpa using this⟩
  · have h1 := hol.sl
    rw [List.length_set, pvs_ptrs, List.map_set]
    have h2 : ns.length = n := by have := s.bl; simpa using this
    rw [h2]
    exact h1
  · have h1 := rdOf_blk hc
    simp [blkOf] at h1
    subst h1
    exact hnf _ hm (by simp)
  · rcases hfn c hm with h1 | rfl
    · exact hsys.dv c hc h1
    · have := hvv _ hc; omega
  · refine Stp.stp hu.stp (hst0.trans hst) (fun c hc => by simp at hc; subst hc; exact .inr hlb.1)
  · rcases hfn c hc with h1 | rfl
    · exact hnew c h1
    · have := hst0.size; omega
  · have h1 := hkeep c hc
    refine ⟨by omega, fun hm => ?_⟩
    rcases hfn c hm with h2 | rfl
    · exact h1.2 h2
    · omega
end
end Go.Proofs.Ytaopehadegknoaa
