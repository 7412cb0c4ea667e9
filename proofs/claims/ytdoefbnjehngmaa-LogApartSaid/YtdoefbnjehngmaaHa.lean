/- Writing into copies of entries; conditions: the lists lie in the heap. -/
import Derived.Test.YtdoefbnjehngmaaGx
namespace Go.Proofs.Ytdoefbnjehngmaa
open Go Go.CF
set_option maxRecDepth 20000

theorem blk_at {h : Heap} {b k : Nat} {T : TypeId} {L : List Value} {v : Value} (hb : Blk h b T L) (hc : Cel h ⟨b, k, none⟩ v) : L[k]? = some v := by
  have := hc.get { heap := h, tape := fun _ _ => 0, drawn := 0, os := default, output := #[] } rfl
  simpa [World.cell?, hb.get] using this
/-- An integer is written into a block that a list may read. -/
theorem ints_write {h h' : Heap} {w : Value} {c : List Int} {b j : Nat} {T : TypeId} {L : List Value} {x : Int} (k : CkV h w c) (hb : Blk h b T L) (hu : Upd h b T (L.set j (.int .i64 x)) h') (hx : rng x) :
    ∃ c' : List Int, c'.length = c.length ∧ CkV h' w c' := by
  have hr := k.r
  rcases k.s.cases with e | ⟨b2, o, cap, rfl, _, _⟩
  · subst e
    refine ⟨[], rfl, ⟨⟨?_⟩, by simp, by simp⟩⟩
    rcases k.s.sl.ok with ⟨p, cap, h1, h2, h3⟩ | ⟨b', o, cap, h1, h2, _⟩
    · exact ⟨.inl ⟨p, cap, h1, rfl, rfl⟩⟩
    · simp at h2
  · by_cases hbb : b2 = b
    · subst hbb
      refine ⟨c.mapIdx fun i y => if o + i = j then x else y, by simp, ⟨⟨?_⟩, by simp; exact k.l, fun y hy => ?_⟩⟩
      · rcases k.s.sl.ok with ⟨p, cap', h1, h2, h3⟩ | ⟨b', o', cap', h1, h2, h3, h4, hc⟩
        · simp only [Value.slice.injEq] at h1
          have h9 : c = [] := List.eq_nil_of_length_eq_zero h2
          subst h9
          exact ⟨.inl ⟨some ⟨b2, o, none⟩, cap, rfl, rfl, rfl⟩⟩
        · simp only [Value.slice.injEq, Option.some.injEq, Addr.mk.injEq, and_true] at h1
          obtain ⟨⟨rfl, rfl⟩, _, rfl⟩ := h1
          refine ⟨.inr ⟨b2, o, cap, by simp, by simpa using h2, by simpa using h3, by rw [hu.size]; exact h4, ⟨fun i v hv => ?_⟩⟩⟩
          rw [addr_add]
          have hil : i < c.length := by
            have := (List.getElem?_eq_some_iff.1 hv).1
            rw [intsV_length] at this; simpa using this
          obtain ⟨y, hy⟩ : ∃ y, c[i]? = some y := ⟨_, List.getElem?_eq_getElem hil⟩
          have hLi := blk_at hb (k.s.cel hy)
          have hv2 : v = .int .i64 (if o + i = j then x else y) := by
            have := intsV_get (l := c.mapIdx fun i y => if o + i = j then x else y) (i := i) (x := if o + i = j then x else y) (by rw [List.getElem?_mapIdx, hy]; rfl)
            rw [this] at hv; cases hv; rfl
          subst hv2
          refine hu.blk.cel ?_
          rw [List.getElem?_set]
          by_cases hij : j = o + i
          · rw [if_pos hij, if_pos hij.symm, if_pos (by have := (List.getElem?_eq_some_iff.1 hLi).1; omega)]
          · rw [if_neg hij, if_neg (fun e => hij e.symm), hLi]
      · obtain ⟨i, hi⟩ := List.getElem?_of_mem hy
        rw [List.getElem?_mapIdx] at hi
        obtain ⟨z, hz, rfl⟩ := Option.map_eq_some_iff.1 hi
        split
        · exact hx
        · exact hr z (List.mem_of_getElem? hz)
    · exact ⟨c, rfl, k.stp hu.stp (fun b' hb' hm => by
        have := rdOf_blk hb'
        simp [blkOf] at this
        simp at hm
        omega)⟩
theorem rowsR.map {α : Type} {r : Rp α} {h h' : Heap} {F F' : Nat → Prop} {rows : List (List Value)} {l : List α} {Q : α → α → Prop} (hr : rowsR r h F rows l) (hf : ∀ row a, r.R h F row a → ∃ a', Q a a' ∧ r.R h' F' row a') :
    ∃ l' : List α, l'.length = l.length ∧ rowsR r h' F' rows l' ∧ ∀ (i : Nat) (a : α), l[i]? = some a → ∃ a', l'[i]? = some a' ∧ Q a a' := by
  classical
  have key : ∀ (i : Fin l.length), ∃ a', Q (l[i]) a' ∧ r.R h' F' (rows[i]'(by rw [hr.1]; exact i.2)) a' := fun i => hf _ _ (hr.2 i _ _ (List.getElem?_eq_getElem _) (List.getElem?_eq_getElem _))
  have hf1 := fun i => (Classical.choose_spec (key i)).1
  have hf2 := fun i => (Classical.choose_spec (key i)).2
  obtain ⟨f, hf⟩ : ∃ f, f = fun i => Classical.choose (key i) := ⟨_, rfl⟩
  have hf1 : ∀ i, Q (l[i]) (f i) := by rw [hf]; exact hf1
  have hf2 : ∀ i, r.R h' F' (rows[i]'(by rw [hr.1]; exact i.2)) (f i) := by rw [hf]; exact hf2
  refine ⟨List.ofFn f, by simp, ⟨by simp [hr.1], fun i row a hi ha => ?_⟩, fun i a ha => ?_⟩
  · obtain ⟨hi1, rfl⟩ := List.getElem?_eq_some_iff.1 hi
    obtain ⟨hi2, rfl⟩ := List.getElem?_eq_some_iff.1 ha
    simp only [List.getElem_ofFn]
    exact hf2 ⟨i, by rw [← hr.1]; exact hi1⟩
  · obtain ⟨hi2, rfl⟩ := List.getElem?_eq_some_iff.1 ha
    exact ⟨f ⟨i, hi2⟩, by simp [hi2], hf1 ⟨i, hi2⟩⟩
/-- A list of voters of a copy is written: it stays a copy, with lists of the same lengths. -/
theorem OwnO.write {h h' : Heap} {F : Nat → Prop} {v : Value} {l : List Ent} {b j : Nat} {L : List Value} {x : Int} (o : OwnO h F v l) (hFb : F b) (hb : Blk h b 3 L) (hu : Upd h b 3 (L.set j (.int .i64 x)) h') (hx : rng x) :
    ∃ l' : List Ent, l'.length = l.length ∧ OwnO h' F v l' ∧ ∀ (i : Nat) (e : Ent), l[i]? = some e → ∃ e', l'[i]? = some e' ∧ e'.vot.length = e.vot.length := by
  obtain ⟨rows, h1, h2⟩ := o.ok
  obtain ⟨l', g1, g2, g3⟩ := rowsR.map (h' := h') (F' := F) (Q := fun e e' => e'.vot.length = e.vot.length) h2 (fun row e hr => by
    obtain ⟨w, rfl, hk, hF, hg⟩ := hr
    obtain ⟨c', hc1, hc2⟩ := ints_write hk hb hu hx
    refine ⟨{ e with vot := c' }, hc1, w, rfl, hc2, fun b' hb' => ⟨(hF b' hb').1, ?_⟩, ⟨hg.term, hg.kind, hg.rep, hg.ser, hg.act⟩⟩
    obtain ⟨L', hL'⟩ := (hF b' hb').2
    by_cases e : b' = b
    · subst e; exact ⟨_, hu.blk⟩
    · exact ⟨L', hu.keep e hL'⟩)
  refine ⟨l', g1, ⟨⟨rows, ?_, g2⟩, o.apart⟩, g3⟩
  rw [g1]
  exact h1.stp hu.stp (fun b' hb' hm => by simp at hm; subst hm; exact o.apart _ hb' hFb)
/-- The term of an entry of a copy is written. -/
theorem OwnO.term {h : Heap} {F : Nat → Prop} {b off len cap : Nat} {l : List Ent} (o : OwnO h F (.slice (some ⟨b, off, none⟩) len cap) l) {i : Nat} {e : Ent} (hi : l[i]? = some e) :
    ∃ L, Blk h b 39 L ∧ off + i * 6 + 6 ≤ L.length ∧ ∀ h' x, rng x → Upd h b 39 (L.set (off + i * 6) (.int .i64 x)) h' → OwnO h' F (.slice (some ⟨b, off, none⟩) len cap) (l.set i { e with term := x }) := by
  obtain ⟨L, row, hL, hLl, hR, _, hput⟩ := o.put hi
  have hnb := o.apart b (by simp [blkOf])
  refine ⟨L, hL, hLl, fun h' x hx hu => ?_⟩
  refine hput F 0 _ h' _ (fun _ h => h) hnb (show 0 < 6 by omega) hu ?_
  obtain ⟨w, rfl, hk, hF, hg⟩ := hR
  refine ⟨w, rfl, hk.stp hu.stp (fun b' hb' hm => by simp at hm; subst hm; exact hnb (hF _ hb').1), fun b' hb' => ⟨(hF b' hb').1, ?_⟩, ⟨hx, hg.kind, hg.rep, hg.ser, hg.act⟩⟩
  obtain ⟨L', hL'⟩ := (hF b' hb').2
  exact ⟨L', hu.keep (fun e => hnb (e ▸ (hF b' hb').1)) hL'⟩
/-- The list of voters of an entry of a copy. -/
theorem OwnO.vot {h : Heap} {F : Nat → Prop} {b off len cap : Nat} {l : List Ent} (o : OwnO h F (.slice (some ⟨b, off, none⟩) len cap) l) {i : Nat} {e : Ent} (hi : l[i]? = some e) :
    ∃ q qc, Cel h ⟨b, off + i * 6 + 5, none⟩ (.slice q e.vot.length qc) ∧ CkV h (.slice q e.vot.length qc) e.vot ∧ ∀ k, k < e.vot.length → ∃ b2 o2 L, q = some ⟨b2, o2, none⟩ ∧ F b2 ∧ Blk h b2 3 L ∧ o2 + k < L.length := by
  obtain ⟨L, row, hL, hLl, hR, hC, _⟩ := o.put hi
  obtain ⟨w, rfl, hk, hF, hg⟩ := hR
  obtain ⟨q, qc, rfl⟩ := hk.s.sl.shape
  refine ⟨q, qc, hC.cell (j := 5) rfl, hk, fun k hkl => ?_⟩
  rcases hk.s.cases with e0 | ⟨b2, o2, cap, e1, _, _⟩
  · rw [e0] at hkl; simp at hkl
  · simp only [Value.slice.injEq] at e1
    obtain ⟨rfl, _, rfl⟩ := e1
    have hm : b2 ∈ rdOf (.slice (some ⟨b2, o2, none⟩) e.vot.length qc) := by
      obtain ⟨m, hm⟩ : ∃ m, e.vot.length = m + 1 := ⟨e.vot.length - 1, by omega⟩
      rw [hm]; simp [rdOf]
    obtain ⟨g1, L2, g2⟩ := hF b2 hm
    have hcel := hk.s.cel (i := k) (List.getElem?_eq_getElem hkl)
    exact ⟨b2, o2, L2, rfl, g1, g2, (List.getElem?_eq_some_iff.1 (blk_at g2 hcel)).1⟩
end Go.Proofs.Ytdoefbnjehngmaa
