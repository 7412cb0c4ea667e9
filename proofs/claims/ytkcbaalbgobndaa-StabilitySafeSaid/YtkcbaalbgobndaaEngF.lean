/- From a walk over heaps to what a row asks; and what an argument's reading says of the heap. Generic over the program. -/
import Derived.Test.YtkcbaalbgobndaaEngE
import Derived.WalkKit
import Derived.ProofKit
import Derived.Carry
import Derived.Deep.Slices
namespace Go.CF
open Go Go.ChangeShapes Go.WideShapes Go.ChangeAt Go.RowKit

section
variable {H : Type} {enc : TypeId × Value → H} {P : Program}

theorem trodAll_stays (hl : laidOutB P = true) {W W' : World} {sp : Nat → Bool} : ∀ {ts : List TypeId} {vs : List Value} {ds : List (DataW H)} {ps : List MemPlace}, (∀ t ∈ ts, P.readableRec t = true ∧ t < P.types.size) →
    DataW.TrodAll enc P W 0 (fun _ => true) true ts vs ds ps → (∀ p ∈ ps, W.sameAt W' p) → (∀ p ∈ ps, sp p.block = true) → DataW.TrodAll enc P W' 0 sp true ts vs ds ps
  | [], [], [], _, _, h, _, _ => h
  | t :: ts, v :: vs, d :: ds, ps, hts, h, h1, h2 => by
    obtain ⟨p, q, h3, h4, rfl⟩ := h
    exact ⟨p, q, WideElems.Trod_stays hl (hts t (by simp)).1 (hts t (by simp)).2 h3 (fun x hx => h1 x (by simp [hx])) (fun x hx => h2 x (by simp [hx])),
      trodAll_stays hl (fun t ht => hts t (by simp [ht])) h4 (fun x hx => h1 x (by simp [hx])) (fun x hx => h2 x (by simp [hx])), rfl⟩
  | [], _ :: _, _, _, _, h, _, _ => h.elim
  | [], [], _ :: _, _, _, h, _, _ => h.elim
  | _ :: _, [], _, _, _, h, _, _ => h.elim
  | _ :: _, _ :: _, [], _, _, h, _, _ => h.elim

/-- A law that returns true, and turns nothing that was there. -/
theorem law_contract (hl : laidOutB P = true) {fn : Func} {f : FuncId} {s : ChangeSpec} {apart fresh handsOn again : Bool} {tb : TypeId} {W : World} {args : Array Value} {ds gs : List (DataW H)} {before : List MemPlace}
    (hts : ∀ t ∈ fn.params.toList, P.readableRec t = true ∧ t < P.types.size) (hvars : s.vars = []) (hrt : fn.resultTypes = #[tb]) (htb : P.underlying tb = some .bool)
    (hspec : s.fn H ds = { results := [.lit (.bool true)], args := ds })
    (hW : DataW.Whole enc P fn.params.toList s.vars apart W args.toList ds gs before)
    (hc : CallsH P f args W.heap fun r h' => r = .bool true ∧ Stp [] W.heap h') :
    Calls P f args W fun e W' => ∃ v, e = .returned v ∧ s.post enc P fn apart fresh handsOn again W args v W' := by
  refine (hc.run W rfl).mono fun e W' ⟨v, he, hsm, hr, hst⟩ => ⟨v, he, ?_⟩
  subst hr
  have hb : Below W.heap.size W W' := ⟨hsm.os, hsm.tape, hsm.output, hst.size, fun k hk => hst.same k hk (by simp)⟩
  have hlt : ∀ p ∈ before, p.block < W.heap.size := fun p hp => hW.lt p hp
  have hW0 := hW
  obtain ⟨p, q, hA, hV, hpq, hz, hn⟩ := hW
  rw [hvars] at hV
  obtain ⟨rfl, rfl⟩ := trodVars_none hV
  rw [List.append_nil] at hpq
  subst hpq
  have hsp : s.fn H (ds ++ []) = { results := [.lit (.bool true)], args := ds } := by rw [List.append_nil]; exact hspec
  have hargs : ∀ sp : Nat → Bool, (∀ p ∈ before, sp p.block = true) → DataW.TrodAll enc P W' 0 sp true fn.params.toList args.toList ds before := fun sp h => trodAll_stays hl hts hA (fun x hx => hb.same (hlt x hx)) h
  have hres : ∀ (b : Nat) (sp : Nat → Bool) (hd : Bool), DataW.TrodAll enc P W' b sp hd fn.resultTypes.toList ((Value.bool true).resultList fn.resultTypes.size) [.lit (.bool true)] [] := fun b sp hd => by
    rw [hrt]
    exact ⟨[], [], ⟨1, by simp [DataW.trod, Value.cells, htb]⟩, rfl, rfl⟩
  have hvv : ∀ sp : Nat → Bool, DataW.TrodVars enc P W' sp s.vars (s.fn H (ds ++ [])).vars [] := fun sp => by rw [hvars, hsp]; rfl
  refine ⟨ds, [], before, [], before, [], hW0, by rw [hsp]; exact hres _ _ _, by rw [hsp]; exact hargs _ (fun x hx => by simpa using hlt x hx), hvv _, Below.frame hb _, fun _ => ⟨?_, ?_⟩⟩
  · intro j t r h1 h2
    rw [hrt] at h1 h2
    cases j with
    | zero =>
      simp at h1; subst h1
      simp [Value.resultList] at h2; subst h2
      simp [Value.okWide, htb, Cell.okWide, Cell.ok]
    | succ j => simp at h1
  · refine ⟨_, [], before, ⟨[] ++ before, [], trodAll_append (hargs (fun _ => true) (fun _ _ => rfl)) (hres _ _ _), by rw [hvars]; rfl, by simp, ?_, ?_⟩, ?_⟩
    · intro b off hp
      have h1 := hz b off hp
      rw [← h1]
      exact World.frozen?_of_block (w := W) (hb.block b (hlt _ hp))
    · intro ha; exact hn ha
    · intro p hp _; exact hp

/-! ### What a reading says -/
theorem Cel.ofWorld {W : World} {a : Addr} {v : Value} (h : W.cell? a = some v) : Cel W.heap a v :=
  ⟨fun w hw => by rw [← h]; exact World.cell?_of_block (w := W) (by rw [hw])⟩

theorem flatten_get {sz : Nat} : ∀ (rows : List (List Value)) (j : Nat) (u : Value), (∀ r ∈ rows, r.length = sz) → rows.flatten[j]? = some u → ∃ i k r, rows[i]? = some r ∧ r[k]? = some u ∧ j = i * sz + k ∧ k < sz
  | [], j, u, _, h => by simp at h
  | r :: rs, j, u, hr, h => by
    have hrl := hr r (by simp)
    by_cases hj : j < sz
    · rw [List.flatten_cons, List.getElem?_append_left (by omega)] at h
      exact ⟨0, j, r, rfl, h, by simp, hj⟩
    · rw [List.flatten_cons, List.getElem?_append_right (by omega), hrl] at h
      obtain ⟨i, k, r', h1, h2, h3, h4⟩ := flatten_get rs (j - sz) u (fun r hr' => hr r (by simp [hr'])) h
      exact ⟨i + 1, k, r', by simpa using h1, h2, by rw [Nat.add_mul]; omega, h4⟩

/-- A slice that is an argument, or lies in one: its elements' cells. -/
theorem trod_sl {W : World} {sp : Nat → Bool} {held : Bool} {t e sz : Nat} {fuel : Nat} {cs : List Value} {x : DataW H × List MemPlace} (ht : P.underlying t = some (.slice e)) (hc : P.cellsOf e = sz) (hpos : 0 < sz)
    (h : DataW.trod enc P W 0 sp held fuel t cs = some x) :
    ∃ (v : Value) (rows : List (List Value)), cs = [v] ∧ Sl W.heap v rows.length rows.flatten ∧ (∃ p cap, v = .slice p rows.length cap) ∧ rows.length ≤ maxLen ∧ ∀ r ∈ rows, r.length = sz ∧ ∃ n d ps, DataW.trod enc P W 0 sp held n e r = some (d, ps) := by
  rcases Deep.open_slice ht h with ⟨rfl, _⟩ | ⟨a, len, cap, m, n, D, Pl, rfl, _, hle, hmx, hm, _, hx⟩
  · exact ⟨_, [], rfl, ⟨.inl ⟨_, _, rfl, rfl, rfl⟩⟩, ⟨_, _, rfl⟩, Nat.zero_le _, by simp⟩
  have hlm : len ≤ m := by rw [hm]; split <;> omega
  obtain ⟨R, hR⟩ := Deep.choose_lt hx
  have hrl : ∀ r ∈ (List.range len).map R, r.length = sz ∧ ∃ n d ps, DataW.trod enc P W 0 sp held n e r = some (d, ps) := by
    intro r hr
    simp only [List.mem_map, List.mem_range] at hr
    obtain ⟨i, hi, rfl⟩ := hr
    obtain ⟨h1, h2⟩ := hR i (by omega)
    obtain ⟨_, h3, _⟩ := World.cells?_some h1
    exact ⟨by rw [h3, hc], n, _, _, h2⟩
  have hlen : ((List.range len).map R).length = len := by simp
  refine ⟨_, (List.range len).map R, rfl, ?_, ⟨_, _, by rw [hlen]⟩, by rw [hlen]; omega, hrl⟩
  rw [hlen]
  rcases Nat.eq_zero_or_pos len with rfl | hp
  · exact ⟨.inl ⟨_, _, rfl, rfl, rfl⟩⟩
  have hcell : ∀ i, i < len → ∀ k, k < sz → W.cell? ((a.add (i * sz)).add k) = (R i)[k]? := by
    intro i hi k hk
    obtain ⟨_, h3, h4⟩ := World.cells?_some (hR i (by omega)).1
    rw [hc] at h4
    exact h4 k hk
  obtain ⟨b, o, spot⟩ := a
  have h00 := hcell 0 hp 0 hpos
  obtain ⟨c0, hc0⟩ : ∃ c0, (R 0)[0]? = some c0 := by
    have := (hrl (R 0) (List.mem_map.2 ⟨0, by simpa using hp, rfl⟩)).1
    exact ⟨(R 0)[0]'(by omega), List.getElem?_eq_getElem _⟩
  rw [hc0] at h00
  have hspot : spot = none := by simpa [Addr.add] using World.cell?_spot h00
  subst hspot
  have hblk : b < W.heap.size := by
    have := World.block_lt_of_cell? W _ h00
    simpa [Addr.add] using this
  refine ⟨.inr ⟨b, o, cap, rfl, hp, hle, hblk, ⟨fun j v hv => ?_⟩⟩⟩
  obtain ⟨i, k, r, h1, h2, rfl, h4⟩ := flatten_get _ j v (fun r hr => (hrl r hr).1) hv
  have hi : i < len := by
    have := (List.getElem?_eq_some_iff.1 h1).1
    simpa using this
  have h5 : R i = r := by simpa [hi] using h1
  have h6 := hcell i hi k h4
  rw [h5, h2] at h6
  have h7 : (((⟨b, o, none⟩ : Addr).add (i * sz)).add k) = (⟨b, o, none⟩ : Addr).add (i * sz + k) := by
    simp only [add_plain]; congr 1; omega
  rw [h7] at h6
  exact Cel.ofWorld h6

/-- .. of integers. -/
theorem trod_ints {W : World} {sp : Nat → Bool} {held : Bool} {t e : Nat} {k : IntKind} {fuel : Nat} {cs : List Value} {x : DataW H × List MemPlace} (ht : P.underlying t = some (.slice e)) (he : P.underlying e = some (.int k)) (hc : P.cellsOf e = 1)
    (h : DataW.trod enc P W 0 sp held fuel t cs = some x) :
    ∃ (v : Value) (l : List Int), cs = [v] ∧ Sl W.heap v l.length (l.map (Value.int k)) ∧ l.length ≤ maxLen ∧ ∀ x ∈ l, (Lit.int k x).wf = true := by
  obtain ⟨v, rows, rfl, hs, _, hm, hr⟩ := trod_sl ht hc (by omega) h
  have key : ∀ rows : List (List Value), (∀ r ∈ rows, r.length = 1 ∧ ∃ n d ps, DataW.trod enc P W 0 sp held n e r = some (d, ps)) → ∃ l : List Int, l.length = rows.length ∧ rows.flatten = l.map (Value.int k) ∧ ∀ x ∈ l, (Lit.int k x).wf = true := by
    intro rows
    induction rows with
    | nil => exact fun _ => ⟨[], rfl, rfl, by simp⟩
    | cons r rs ih =>
      intro hr
      obtain ⟨l, h1, h2, h3⟩ := ih (fun r hr' => hr r (by simp [hr']))
      obtain ⟨_, n, d, ps, h5⟩ := hr r (by simp)
      obtain ⟨x, rfl, _, hw⟩ := DataW.trod_int he h5
      exact ⟨x :: l, by simp [h1], by simp [h2], by simpa using ⟨hw, h3⟩⟩
  obtain ⟨l, h1, h2, h3⟩ := key rows hr
  exact ⟨v, l, rfl, by rw [h1, ← h2]; exact hs, by omega, h3⟩
theorem okWide_slice {W : World} {r : Reach} {b : Nat} {t e : TypeId} {v : Value} (ht : P.underlying t = some (.slice e)) (h : Value.okWide P W r b t v) : v.cells = #[v] := by
  cases v with
  | agg c => simp [Value.okWide, ht, Cell.okWide, Cell.ok] at h
  | tuple c => simp [Value.okWide, ht, Cell.okWide, Cell.ok] at h
  | _ => rfl
/-- An argument that is a slice of integers. -/
theorem arg_ints {W : World} {r : Reach} {b : Nat} {sp : Nat → Bool} {held : Bool} {t e : Nat} {k : IntKind} {v : Value} {d : DataW H} {ps : List MemPlace} (ht : P.underlying t = some (.slice e)) (he : P.underlying e = some (.int k)) (hc : P.cellsOf e = 1)
    (hv : Value.okWide P W r b t v) (h : DataW.Trod enc P W 0 sp held t v d ps) :
    ∃ l : List Int, Sl W.heap v l.length (l.map (Value.int k)) ∧ l.length ≤ maxLen ∧ ∀ x ∈ l, (Lit.int k x).wf = true := by
  obtain ⟨n, h⟩ := h
  obtain ⟨v', l, h1, h2⟩ := trod_ints ht he hc h
  rw [okWide_slice ht hv] at h1
  simp only [List.cons.injEq, and_true] at h1
  subst h1
  exact ⟨l, h2⟩
end
end Go.CF
