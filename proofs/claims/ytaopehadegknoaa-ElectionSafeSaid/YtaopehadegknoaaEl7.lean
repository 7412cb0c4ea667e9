/- A cluster that a law holds, under Tick, Receive, Role and Term; conditions: those of the functions. -/
import Derived.Test.YtaopehadegknoaaEl6
namespace Go.Proofs.Ytaopehadegknoaa
open Go Go.CF
set_option maxRecDepth 20000

/-- Nodes, the slice of their pointers, and the voters. -/
structure Sys (h : Heap) (lv vv : Value) (ns : List Nd) (voters : List Int) : Prop where
  cl : Cluster h ns
  sl : Sl h lv ns.length (ptrs ns)
  vo : IntS h vv voters
  dl : ∀ c ∈ rdOf lv, c ∉ foot ns
  dv : ∀ c ∈ rdOf vv, c ∉ foot ns

/-- The node's own blocks have moved on: what was no part of them still is none. -/
structure Moved (h h' : Heap) (ns ns' : List Nd) : Prop where
  stp : Stp (foot ns) h h'
  new : ∀ c ∈ foot ns', c ∈ foot ns ∨ h.size ≤ c
theorem Moved.out {h h' : Heap} {ns ns' : List Nd} (m : Moved h h' ns ns') {c : Nat} (hl : c < h.size) (hn : c ∉ foot ns) : c ∉ foot ns' := fun hm => by
  rcases m.new c hm with h1 | h1
  · exact hn h1
  · omega
theorem Moved.trans {h h1 h2 : Heap} {ns ns1 ns2 : List Nd} (m : Moved h h1 ns ns1) (m' : Moved h1 h2 ns1 ns2) : Moved h h2 ns ns2 := by
  refine ⟨Stp.stp m'.stp m.stp m.new, fun c hc => ?_⟩
  rcases m'.new c hc with h3 | h3
  · exact m.new c h3
  · exact .inr (Nat.le_trans m.stp.size h3)
theorem Moved.refl {h : Heap} {ns : List Nd} : Moved h h ns ns := ⟨Stp.refl _, fun _ hc => .inl hc⟩
theorem Moved.more {h h1 : Heap} {ns : List Nd} (s : Stp [] h h1) : Moved h h1 ns ns := ⟨s.mono (by simp), fun _ hc => .inl hc⟩

theorem Sys.stp {fp : List Nat} {h h' : Heap} {lv vv : Value} {ns : List Nd} {voters : List Int} (x : Stp fp h h') (s : Sys h lv vv ns voters) (h1 : ∀ c ∈ foot ns, c ∉ fp) (h2 : ∀ c ∈ rdOf lv, c ∉ fp) (h3 : ∀ c ∈ rdOf vv, c ∉ fp) : Sys h' lv vv ns voters :=
  ⟨s.cl.stp x h1, s.sl.stp x h2, s.vo.stp x h3, s.dl, s.dv⟩
theorem Sys.more {h h' : Heap} {lv vv : Value} {ns : List Nd} {voters : List Int} (x : Stp [] h h') (s : Sys h lv vv ns voters) : Sys h' lv vv ns voters := s.stp x (by simp) (by simp) (by simp)
theorem Sys.set {h h' : Heap} {lv vv : Value} {ns : List Nd} {voters : List Int} (s : Sys h lv vv ns voters) {i : Nat} {x : Nd} (hi : ns[i]? = some x) {s' : NodeS} {fp' : List Nat} (ht : NodeTo h h' x.1 s' x.2.2 fp') :
    Sys h' lv vv (ns.set i (x.1, s', fp')) voters ∧ Moved h h' ns (ns.set i (x.1, s', fp')) := by
  have hm : Moved h h' ns (ns.set i (x.1, s', fp')) := ⟨ht.stp.mono (fun c hc => .inl (foot_mem hi hc)), fun c hc => by
    rcases foot_set hc with h1 | h1
    · exact .inl h1
    · rcases ht.new c h1 with h2 | h2
      · exact .inl (foot_mem hi h2)
      · exact .inr h2⟩
  refine ⟨⟨s.cl.set hi ht, ?_, ?_, fun c hc => hm.out (s.sl.lt c hc) (s.dl c hc), fun c hc => hm.out (s.vo.sl.lt c hc) (s.dv c hc)⟩, hm⟩
  · rw [ptrs_set hi, List.length_set]
    exact s.sl.stp hm.stp s.dl
  · exact s.vo.stp hm.stp s.dv

/-- The pointer to a node, in the slice. -/
theorem Sys.ptr {h : Heap} {lv vv : Value} {ns : List Nd} {voters : List Int} (s : Sys h lv vv ns voters) (hp : 0 < ns.length) :
    ∃ b o cap, lv = .slice (some ⟨b, o, none⟩) ns.length cap ∧ ∀ (i : Nat) (x : Nd), ns[i]? = some x → Cel h ⟨b, o + i, none⟩ (.pointer (some ⟨x.1, 0, none⟩)) := by
  rcases s.sl.ok with ⟨_, _, _, h1, _⟩ | ⟨b, o, cap, rfl, _, _, _, hc⟩
  · omega
  · exact ⟨b, o, cap, rfl, fun i x hi => hc.cell (ptrs_get hi)⟩

theorem Sys.tick {h : Heap} {lv vv : Value} {ns : List Nd} {voters : List Int} (s : Sys h lv vv ns voters) {i : Nat} {x : Nd} (hi : ns[i]? = some x) (hw : x.2.1.wf) (hl : voters.length ≤ 1000000000) (index term : Int) :
    CallsH Try.prog 14 #[.pointer (some ⟨x.1, 0, none⟩), vv, .int .i64 index, .int .i64 term] h fun r h' => ∃ fp',
      Sys h' lv vv (ns.set i (x.1, (x.2.1.tick voters index term).1, fp')) voters ∧ Moved h h' ns (ns.set i (x.1, (x.2.1.tick voters index term).1, fp')) ∧
      MsgS h' r (x.2.1.tick voters index term).2 ∧ ∀ c ∈ blkOf r, h.size ≤ c ∧ c ∉ foot (ns.set i (x.1, (x.2.1.tick voters index term).1, fp')) := by
  refine (tick_any (s.cl.at_ i x hi) hw s.vo (fun c hc hm => s.dv c hc (foot_mem hi hm)) hl index term).mono ?_
  rintro r h' ⟨fp', hto, hms, hfr⟩
  obtain ⟨h1, h2⟩ := s.set hi hto
  refine ⟨fp', h1, h2, hms, fun c hc => ⟨(hfr c hc).1, fun hm => ?_⟩⟩
  rcases foot_set hm with h3 | h3
  · have := s.cl.lt c h3; have := (hfr c hc).1; omega
  · exact (hfr c hc).2 h3

theorem Sys.receive {h : Heap} {lv vv : Value} {ns : List Nd} {voters : List Int} (s : Sys h lv vv ns voters) {i : Nat} {x : Nd} (hi : ns[i]? = some x) {m : Msg} (hm : m.ok) (hl : voters.length ≤ 1000000000) (hl2 : x.2.1.votes.length ≤ 1000000000) (index term : Int) :
    CallsH Try.prog 15 #[.pointer (some ⟨x.1, 0, none⟩), .agg (msgV m).toArray, vv, .int .i64 index, .int .i64 term] h fun r h' => ∃ fp',
      Sys h' lv vv (ns.set i (x.1, (x.2.1.receive m voters index term).1, fp')) voters ∧ Moved h h' ns (ns.set i (x.1, (x.2.1.receive m voters index term).1, fp')) ∧
      MsgS h' r (x.2.1.receive m voters index term).2 ∧ ∀ c ∈ blkOf r, h.size ≤ c ∧ c ∉ foot (ns.set i (x.1, (x.2.1.receive m voters index term).1, fp')) := by
  refine (receive_any (s.cl.at_ i x hi) hm s.vo (fun c hc hm => s.dv c hc (foot_mem hi hm)) hl hl2 index term).mono ?_
  rintro r h' ⟨fp', hto, hms, hfr⟩
  obtain ⟨h1, h2⟩ := s.set hi hto
  refine ⟨fp', h1, h2, hms, fun c hc => ⟨(hfr c hc).1, fun hm => ?_⟩⟩
  rcases foot_set hm with h3 | h3
  · have := s.cl.lt c h3; have := (hfr c hc).1; omega
  · exact (hfr c hc).2 h3

/-! ### All that a law holds -/
def Off (keep : List Nat) (h h' : Heap) : Prop := ∃ F, Stp F h h' ∧ ∀ c ∈ keep, c ∉ F
structure Uni (base h : Heap) (lv vv : Value) (bs : List Nat) (ss : List NodeS) (voters : List Int) (keep : List Nat) : Prop where
  ok : ∃ ns : List Nd, ns.map (·.1) = bs ∧ ns.map (·.2.1) = ss ∧ Sys h lv vv ns voters ∧ Stp [] base h ∧ (∀ c ∈ foot ns, base.size ≤ c) ∧ ∀ c ∈ keep, c < h.size ∧ c ∉ foot ns

section
variable {base h h' : Heap} {lv vv : Value} {bs : List Nat} {ss : List NodeS} {voters : List Int} {keep : List Nat}
theorem Uni.from_ (u : Uni base h lv vv bs ss voters keep) : Stp [] base h := by obtain ⟨_, _, _, _, h1, _⟩ := u.ok; exact h1
theorem Uni.vo (u : Uni base h lv vv bs ss voters keep) : IntS h vv voters := by obtain ⟨_, _, _, h1, _⟩ := u.ok; exact h1.vo
theorem Uni.lens (u : Uni base h lv vv bs ss voters keep) : bs.length = ss.length := by obtain ⟨ns, rfl, rfl, _⟩ := u.ok; simp
theorem Uni.sub {k2 : List Nat} (u : Uni base h lv vv bs ss voters keep) (hk : ∀ c ∈ k2, c ∈ keep) : Uni base h lv vv bs ss voters k2 := by
  obtain ⟨ns, h1, h2, h3, h4, h5, h6⟩ := u.ok
  exact ⟨ns, h1, h2, h3, h4, h5, fun c hc => h6 c (hk c hc)⟩
/-- Something has turned that is none of the nodes' (nor the slices'). -/
theorem Uni.stp {fp k2 : List Nat} (x : Stp fp h h') (u : Uni base h lv vv bs ss voters keep) (h1 : ∀ c ∈ fp, c ∈ keep ∨ h.size ≤ c) (h0 : ∀ c ∈ fp, base.size ≤ c) (h2 : ∀ c ∈ rdOf lv, c ∉ fp) (h3 : ∀ c ∈ rdOf vv, c ∉ fp) (hk : ∀ c ∈ k2, c ∈ keep ∨ (h.size ≤ c ∧ c < h'.size)) :
    Uni base h' lv vv bs ss voters k2 := by
  obtain ⟨ns, h4, h5, h6, h7, h8, h9⟩ := u.ok
  have hl := h6.cl.lt
  refine ⟨ns, h4, h5, h6.stp x (fun c hc hf => ?_) h2 h3, Stp.stp x h7 (fun c hc => .inr (h0 c hc)), h8, fun c hc => ?_⟩
  · rcases h1 c hf with h10 | h10
    · exact (h9 c h10).2 hc
    · have := hl c hc; omega
  · rcases hk c hc with h10 | ⟨h10, h11⟩
    · exact ⟨Nat.lt_of_lt_of_le (h9 c h10).1 x.size, (h9 c h10).2⟩
    · exact ⟨h11, fun hm => by have := hl c hm; omega⟩
theorem Uni.more (u : Uni base h lv vv bs ss voters keep) (x : Stp [] h h') : Uni base h' lv vv bs ss voters keep := u.stp x (by simp) (by simp) (by simp) (by simp) (fun _ hc => .inl hc)

theorem Uni.ptr (u : Uni base h lv vv bs ss voters keep) (hp : 0 < ss.length) :
    ∃ b o cap, lv = .slice (some ⟨b, o, none⟩) ss.length cap ∧ ∀ (i : Nat) (x : Nat), bs[i]? = some x → Cel h ⟨b, o + i, none⟩ (.pointer (some ⟨x, 0, none⟩)) := by
  obtain ⟨ns, rfl, rfl, h3, _⟩ := u.ok
  obtain ⟨b, o, cap, h4, h5⟩ := h3.ptr (by simpa using hp)
  refine ⟨b, o, cap, by simpa using h4, fun i x hi => ?_⟩
  simp only [List.getElem?_map, Option.map_eq_some_iff] at hi
  obtain ⟨y, hy, rfl⟩ := hi
  exact h5 i y hy

theorem Uni.at (u : Uni base h lv vv bs ss voters keep) {i b : Nat} {s : NodeS} (hb : bs[i]? = some b) (hs : ss[i]? = some s) : ∃ ns : List Nd, ∃ x : Nd, ns.map (·.1) = bs ∧ ns.map (·.2.1) = ss ∧ ns[i]? = some x ∧ x.1 = b ∧ x.2.1 = s ∧
    Sys h lv vv ns voters ∧ Stp [] base h ∧ (∀ c ∈ foot ns, base.size ≤ c) ∧ ∀ c ∈ keep, c < h.size ∧ c ∉ foot ns := by
  obtain ⟨ns, rfl, rfl, h3, h4, h5, h6⟩ := u.ok
  simp only [List.getElem?_map, Option.map_eq_some_iff] at hb hs
  obtain ⟨y, hy, rfl⟩ := hb
  obtain ⟨z, hz, rfl⟩ := hs
  rw [hy] at hz; cases hz
  exact ⟨ns, y, rfl, rfl, hy, rfl, rfl, h3, h4, h5, h6⟩

theorem Uni.moved {ns ns' : List Nd} {r : Value} (hm : Moved h h' ns ns') (hs : Sys h' lv vv ns' voters) (h4 : Stp [] base h) (h5 : ∀ c ∈ foot ns, base.size ≤ c) (h6 : ∀ c ∈ keep, c < h.size ∧ c ∉ foot ns) (hr : ∀ c ∈ blkOf r, c < h'.size) (hr2 : ∀ c ∈ blkOf r, h.size ≤ c ∧ c ∉ foot ns') :
    Uni base h' lv vv (ns'.map (·.1)) (ns'.map (·.2.1)) voters (blkOf r ++ keep) ∧ Off keep h h' := by
  refine ⟨⟨ns', rfl, rfl, hs, Stp.stp hm.stp h4 (fun c hc => .inr (h5 c hc)), fun c hc => ?_, fun c hc => ?_⟩, foot ns, hm.stp, fun c hc => (h6 c hc).2⟩
  · rcases hm.new c hc with h7 | h7
    · exact h5 c h7
    · exact Nat.le_trans h4.size h7
  · rcases List.mem_append.1 hc with h7 | h7
    · exact ⟨hr c h7, (hr2 c h7).2⟩
    · exact ⟨Nat.lt_of_lt_of_le (h6 c h7).1 hm.stp.size, hm.out (h6 c h7).1 (h6 c h7).2⟩

theorem set_fst {ns : List Nd} {i : Nat} {x : Nd} (hi : ns[i]? = some x) (s' : NodeS) (fp' : List Nat) : (ns.set i (x.1, s', fp')).map (·.1) = ns.map (·.1) := by
  have := ptrs_set hi s' fp'
  rw [List.map_set]
  apply List.ext_getElem?
  intro j
  rw [List.getElem?_set]
  split
  · rename_i e; subst e
    have hil := (List.getElem?_eq_some_iff.1 hi).1
    rw [List.getElem?_eq_getElem hil, Option.some.injEq] at hi
    simp [hil, hi]
  · rfl

theorem Uni.tick (u : Uni base h lv vv bs ss voters keep) {i b : Nat} {s : NodeS} (hb : bs[i]? = some b) (hs : ss[i]? = some s) (hw : s.wf) (hl : voters.length ≤ 1000000000) (index term : Int) :
    CallsH Try.prog 14 #[.pointer (some ⟨b, 0, none⟩), vv, .int .i64 index, .int .i64 term] h fun r h' =>
      Uni base h' lv vv bs (ss.set i (s.tick voters index term).1) voters (blkOf r ++ keep) ∧ Off keep h h' ∧ MsgS h' r (s.tick voters index term).2 ∧ ∀ c ∈ blkOf r, h.size ≤ c := by
  obtain ⟨ns, x, rfl, rfl, hi, rfl, rfl, h3, h4, h5, h6⟩ := u.at hb hs
  refine (h3.tick hi hw hl index term).mono ?_
  rintro r h' ⟨fp', hsys, hm, hms, hfr⟩
  obtain ⟨h7, h8⟩ := Uni.moved (r := r) hm hsys h4 h5 h6 hms.own.lt hfr
  rw [set_fst hi, List.map_set] at h7
  exact ⟨h7, h8, hms, fun c hc => (hfr c hc).1⟩

theorem Uni.receive (u : Uni base h lv vv bs ss voters keep) {i b : Nat} {s : NodeS} (hb : bs[i]? = some b) (hs : ss[i]? = some s) {m : Msg} (hm : m.ok) (hl : voters.length ≤ 1000000000) (hl2 : s.votes.length ≤ 1000000000) (index term : Int) :
    CallsH Try.prog 15 #[.pointer (some ⟨b, 0, none⟩), .agg (msgV m).toArray, vv, .int .i64 index, .int .i64 term] h fun r h' =>
      Uni base h' lv vv bs (ss.set i (s.receive m voters index term).1) voters (blkOf r ++ keep) ∧ Off keep h h' ∧ MsgS h' r (s.receive m voters index term).2 ∧ ∀ c ∈ blkOf r, h.size ≤ c := by
  obtain ⟨ns, x, rfl, rfl, hi, rfl, rfl, h3, h4, h5, h6⟩ := u.at hb hs
  refine (h3.receive hi hm hl hl2 index term).mono ?_
  rintro r h' ⟨fp', hsys, hm, hms, hfr⟩
  obtain ⟨h7, h8⟩ := Uni.moved (r := r) hm hsys h4 h5 h6 hms.own.lt hfr
  rw [set_fst hi, List.map_set] at h7
  exact ⟨h7, h8, hms, fun c hc => (hfr c hc).1⟩

theorem Uni.role (u : Uni base h lv vv bs ss voters keep) {i b : Nat} {s : NodeS} (hb : bs[i]? = some b) (hs : ss[i]? = some s) :
    CallsH Try.prog 16 #[.pointer (some ⟨b, 0, none⟩)] h fun r h' => r = .tuple #[.int .i64 s.role, .int .i64 s.leader] ∧ h' = h := by
  obtain ⟨ns, x, rfl, rfl, hi, rfl, rfl, h3, h4, h5, h6⟩ := u.at hb hs
  exact role_any (h3.cl.at_ i x hi)
theorem Uni.termIs (u : Uni base h lv vv bs ss voters keep) {i b : Nat} {s : NodeS} (hb : bs[i]? = some b) (hs : ss[i]? = some s) :
    CallsH Try.prog 20 #[.pointer (some ⟨b, 0, none⟩)] h fun r h' => r = .tuple #[.int .i64 s.term, .int .i64 s.vote] ∧ h' = h := by
  obtain ⟨ns, x, rfl, rfl, hi, rfl, rfl, h3, h4, h5, h6⟩ := u.at hb hs
  exact term_any (h3.cl.at_ i x hi)
theorem Off.sl {v : Value} {len : Nat} {vs : List Value} (o : Off keep h h') (hs : Sl h v len vs) (hk : ∀ c ∈ rdOf v, c ∈ keep) : Sl h' v len vs := by
  obtain ⟨F, hF, hn⟩ := o
  exact hs.stp hF (fun c hc => hn c (hk c hc))
theorem Off.own {v : Value} {T sz len : Nat} {vs : List Value} (o : Off keep h h') (hs : Own h v T sz len vs) (hk : ∀ c ∈ blkOf v, c ∈ keep) : Own h' v T sz len vs := by
  obtain ⟨F, hF, hn⟩ := o
  exact hs.stp hF (fun c hc => hn c (hk c hc))
theorem Off.blk {b : Nat} {T : TypeId} {l : List Value} (o : Off keep h h') (hb : Blk h b T l) (hk : b ∈ keep) : Blk h' b T l := by
  obtain ⟨F, hF, hn⟩ := o
  exact hF.blk hb (hn b hk)
end
end Go.Proofs.Ytaopehadegknoaa
