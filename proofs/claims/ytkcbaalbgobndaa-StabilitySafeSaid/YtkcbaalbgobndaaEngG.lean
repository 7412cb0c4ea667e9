/- How data lies in cells, and what an argument's reading says of it. Generic over the program. -/
import Derived.Test.YtkcbaalbgobndaaEngF
namespace Go.CF
open Go Go.ChangeShapes Go.WideShapes Go.ChangeAt Go.RowKit

/-- Data of the kind α, as sz cells and the blocks (within F) that these read. -/
structure Rp (α : Type) where
  sz : Nat
  R : Heap → (Nat → Prop) → List Value → α → Prop
  len : ∀ {h F cs a}, R h F cs a → cs.length = sz
  one : ∀ {h F cs a}, R h F cs a → ∀ u ∈ cs, u.oneCell' = true
  stp : ∀ {h h' F cs a fp}, Stp fp h h' → (∀ b, F b → b ∉ fp) → R h F cs a → R h' F cs a
  mono : ∀ {h F G cs a}, (∀ b, F b → G b) → R h F cs a → R h G cs a
  lt : ∀ {h F cs a}, R h F cs a → R h (fun b => F b ∧ b < h.size) cs a

/-- Blocks that were there. -/
def Old (h : Heap) : Nat → Prop := fun b => b < h.size

theorem Rp.old {α : Type} (r : Rp α) {h h' : Heap} {cs : List Value} {a : α} (x : Stp [] h h') (hr : r.R h (Old h) cs a) : r.R h' (Old h) cs a := r.stp x (fun _ _ => by simp) hr
theorem Rp.grow {α : Type} (r : Rp α) {h h' : Heap} {F : Nat → Prop} {cs : List Value} {a : α} (x : Stp [] h h') (hr : r.R h F cs a) : r.R h' F cs a := r.stp x (fun _ _ => by simp) hr

def Rp.int (k : IntKind) : Rp Int where
  sz := 1
  R := fun _ _ cs a => cs = [.int k a] ∧ (Lit.int k a).wf = true
  len := by rintro _ _ _ _ ⟨rfl, _⟩; rfl
  one := by rintro _ _ _ _ ⟨rfl, _⟩ u hu; simp at hu; subst hu; rfl
  stp := fun _ _ h => h
  mono := fun _ h => h
  lt := fun h => h
def Rp.bool : Rp Bool where
  sz := 1
  R := fun _ _ cs a => cs = [.bool a]
  len := by rintro _ _ _ _ rfl; rfl
  one := by rintro _ _ _ _ rfl u hu; simp at hu; subst hu; rfl
  stp := fun _ _ h => h
  mono := fun _ h => h
  lt := fun h => h
def Rp.unit : Rp Unit where
  sz := 0
  R := fun _ _ cs _ => cs = []
  len := by rintro _ _ _ _ rfl; rfl
  one := by rintro _ _ _ _ rfl u hu; cases hu
  stp := fun _ _ h => h
  mono := fun _ h => h
  lt := fun h => h
def Rp.pair {α β : Type} (r : Rp α) (s : Rp β) : Rp (α × β) where
  sz := r.sz + s.sz
  R := fun h F cs x => ∃ c1 c2, cs = c1 ++ c2 ∧ r.R h F c1 x.1 ∧ s.R h F c2 x.2
  len := by rintro _ _ _ _ ⟨c1, c2, rfl, h1, h2⟩; rw [List.length_append, r.len h1, s.len h2]
  one := by
    rintro _ _ _ _ ⟨c1, c2, rfl, h1, h2⟩ u hu
    rcases List.mem_append.1 hu with h | h
    · exact r.one h1 u h
    · exact s.one h2 u h
  stp := fun x hn ⟨c1, c2, e, h1, h2⟩ => ⟨c1, c2, e, r.stp x hn h1, s.stp x hn h2⟩
  mono := fun hm ⟨c1, c2, e, h1, h2⟩ => ⟨c1, c2, e, r.mono hm h1, s.mono hm h2⟩
  lt := fun ⟨c1, c2, e, h1, h2⟩ => ⟨c1, c2, e, r.lt h1, s.lt h2⟩
def Rp.iso {α β : Type} (r : Rp α) (g : β → α) : Rp β where
  sz := r.sz
  R := fun h F cs b => r.R h F cs (g b)
  len := fun h => r.len h
  one := fun h => r.one h
  stp := fun x hn h => r.stp x hn h
  mono := fun hm h => r.mono hm h
  lt := fun h => r.lt h

/-- The rows of a slice's elements. -/
def rowsR {α : Type} (r : Rp α) (h : Heap) (F : Nat → Prop) (rows : List (List Value)) (l : List α) : Prop :=
  rows.length = l.length ∧ ∀ (i : Nat) (row : List Value) (a : α), rows[i]? = some row → l[i]? = some a → r.R h F row a

def Rp.slice {α : Type} (r : Rp α) : Rp (List α) where
  sz := 1
  R := fun h F cs l => ∃ v, cs = [v] ∧ (∀ b ∈ rdOf v, F b) ∧ l.length ≤ 9223372036854775807 ∧ ∃ rows, Sl h v l.length rows.flatten ∧ rowsR r h F rows l
  len := by rintro _ _ _ _ ⟨v, rfl, _⟩; rfl
  one := by
    rintro _ _ _ _ ⟨v, rfl, _, _, rows, hs, _⟩ u hu
    simp at hu; subst hu
    obtain ⟨p, cap, rfl⟩ := hs.shape
    rfl
  stp := by
    rintro h h' F cs l fp x hn ⟨v, e, hb, hmx, rows, hs, hl, hr⟩
    exact ⟨v, e, hb, hmx, rows, hs.stp x (fun b hm => hn b (hb b hm)), hl, fun i row a h1 h2 => r.stp x hn (hr i row a h1 h2)⟩
  mono := by
    rintro h F G cs l hm ⟨v, e, hb, hmx, rows, hs, hl, hr⟩
    exact ⟨v, e, fun b h1 => hm b (hb b h1), hmx, rows, hs, hl, fun i row a h1 h2 => r.mono hm (hr i row a h1 h2)⟩
  lt := by
    rintro h F cs l ⟨v, e, hb, hmx, rows, hs, hl, hr⟩
    exact ⟨v, e, fun b h1 => ⟨hb b h1, hs.lt b h1⟩, hmx, rows, hs, hl, fun i row a h1 h2 => r.lt (hr i row a h1 h2)⟩

theorem rows_flat {sz : Nat} : ∀ (rows : List (List Value)) (i k : Nat) (r : List Value) (u : Value), (∀ r ∈ rows, r.length = sz) → rows[i]? = some r → r[k]? = some u → rows.flatten[i * sz + k]? = some u
  | [], i, _, _, _, _, h, _ => by simp at h
  | x :: rs, 0, k, r, u, hr, h, hu => by
    simp at h; subst h
    have hk := (List.getElem?_eq_some_iff.1 hu).1
    rw [Nat.zero_mul, Nat.zero_add, List.flatten_cons, List.getElem?_append_left hk]; exact hu
  | x :: rs, i + 1, k, r, u, hr, h, hu => by
    have hx := hr x (by simp)
    rw [List.flatten_cons, List.getElem?_append_right (by rw [hx, Nat.add_mul]; omega), hx]
    have := rows_flat rs i k r u (fun r h => hr r (by simp [h])) (by simpa using h) hu
    rw [← this]; congr 1; rw [Nat.add_mul]; omega

section
variable {α : Type} {r : Rp α} {h : Heap} {F : Nat → Prop} {l : List α}
/-- The element i of a slice, as cells in the heap. -/
theorem sliceR_cels {b o len cap : Nat} (hs : r.slice.R h F [.slice (some ⟨b, o, none⟩) len cap] l) {i : Nat} {a : α} (hi : l[i]? = some a) : ∃ row, r.R h F row a ∧ Cels h ⟨b, o + i * r.sz, none⟩ row := by
  obtain ⟨v, e, hb, _, rows, hsl, hl, hr⟩ := hs
  simp only [List.cons.injEq, and_true] at e
  subst e
  have hlt := (List.getElem?_eq_some_iff.1 hi).1
  have h1 : rows[i]? = some (rows[i]'(by omega)) := List.getElem?_eq_getElem _
  have hrow := hr i _ a h1 hi
  refine ⟨_, hrow, ?_⟩
  rcases hsl.ok with ⟨p, cap', _, h2, _⟩ | ⟨b', o', cap', h2, _, _, _, hc⟩
  · omega
  · simp only [Value.slice.injEq, Option.some.injEq, Addr.mk.injEq] at h2
    obtain ⟨⟨rfl, rfl, _⟩, _, _⟩ := h2
    have hall : ∀ r' ∈ rows, r'.length = r.sz := by
      intro r' hm
      obtain ⟨j, hj⟩ := List.getElem?_of_mem hm
      have hjl := (List.getElem?_eq_some_iff.1 hj).1
      exact r.len (hr j r' (l[j]'(by omega)) hj (List.getElem?_eq_getElem _))
    refine ⟨fun j v hv => ?_⟩
    have := hc.cell (rows_flat rows i j _ v hall h1 hv)
    rw [addr_add]
    rw [show o + i * r.sz + j = o + (i * r.sz + j) by omega]
    exact this
theorem sliceR_shape {cs : List Value} (hs : r.slice.R h F cs l) : ∃ p cap, cs = [.slice p l.length cap] := by
  obtain ⟨v, rfl, hb, _, rows, hsl, hl, hr⟩ := hs
  obtain ⟨p, cap, rfl⟩ := hsl.shape
  exact ⟨p, cap, rfl⟩
theorem sliceR_cases {cs : List Value} (hs : r.slice.R h F cs l) : (l = [] ∧ ∃ p cap, cs = [.slice p 0 cap]) ∨ ∃ b o cap, cs = [.slice (some ⟨b, o, none⟩) l.length cap] ∧ l.length ≤ cap ∧ 0 < l.length ∧ b < h.size ∧ F b := by
  obtain ⟨v, rfl, hb, _, rows, hsl, hl, hr⟩ := hs
  rcases hsl.ok with ⟨p, cap', h1, h2, _⟩ | ⟨b', o', cap', h2, h3, h4, h5, hc⟩
  · exact .inl ⟨List.eq_nil_of_length_eq_zero h2, p, cap', by rw [h1]⟩
  · subst h2
    refine .inr ⟨b', o', cap', rfl, h4, h3, h5, hb b' ?_⟩
    obtain ⟨k, hk⟩ : ∃ k, l.length = k + 1 := ⟨l.length - 1, by omega⟩
    rw [hk]; simp [rdOf]
theorem sliceR_len {cs : List Value} (hs : r.slice.R h F cs l) : l.length ≤ 9223372036854775807 := by obtain ⟨_, _, _, h, _⟩ := hs; exact h
theorem sliceR_nil {p : Option Addr} {cap : Nat} : r.slice.R h F [.slice p 0 cap] [] :=
  ⟨_, rfl, by simp [rdOf], by simp, [], ⟨.inl ⟨_, _, rfl, rfl, rfl⟩⟩, rfl, fun i row a h1 => by simp at h1⟩
end

theorem wf_i64 {n : Int} : (Lit.int .i64 n).wf = true ↔ -9223372036854775808 ≤ n ∧ n ≤ 9223372036854775807 := by
  simp [Lit.wf, IntKind.min, IntKind.max, IntKind.signed, IntKind.bits]
theorem wf_u8 {n : Int} : (Lit.int .u8 n).wf = true ↔ 0 ≤ n ∧ n ≤ 255 := by
  simp [Lit.wf, IntKind.min, IntKind.max, IntKind.signed, IntKind.bits]
theorem wf_u16 {n : Int} : (Lit.int .u16 n).wf = true ↔ 0 ≤ n ∧ n ≤ 65535 := by
  simp [Lit.wf, IntKind.min, IntKind.max, IntKind.signed, IntKind.bits]

/-! ### Reading -/
section
variable {P : Program}
structure RdT {α : Type} (P : Program) (t : TypeId) (r : Rp α) : Prop where
  sz : P.cellsOf t = r.sz
  rd : ∀ {H : Type} {enc : TypeId × Value → H} {W : World} {sp : Nat → Bool} {held : Bool} {n : Nat} {cs : List Value} {x : DataW H × List MemPlace}, DataW.trod enc P W 0 sp held n t cs = some x → ∃ a, r.R W.heap (Old W.heap) cs a
theorem RdT.int {t : TypeId} {k : IntKind} (ht : P.underlying t = some (.int k)) (hc : P.cellsOf t = 1) : RdT P t (Rp.int k) :=
  ⟨hc, fun h => by obtain ⟨n, h1, _, h2⟩ := DataW.trod_int ht h; exact ⟨n, h1, h2⟩⟩
theorem RdT.bool {t : TypeId} (ht : P.underlying t = some .bool) (hc : P.cellsOf t = 1) : RdT P t Rp.bool :=
  ⟨hc, fun h => by obtain ⟨b, h1, _⟩ := DataW.trod_bool ht h; exact ⟨b, h1⟩⟩
theorem RdT.slice {α : Type} {t e : TypeId} {r : Rp α} (ht : P.underlying t = some (.slice e)) (hc : P.cellsOf t = 1) (he : RdT P e r) (hz : 0 < r.sz) : RdT P t r.slice := by
  refine ⟨hc, fun {H enc W sp held n cs x} h => ?_⟩
  obtain ⟨v, rows, rfl, hs, _, hm, hr⟩ := trod_sl ht he.sz hz h
  have key : ∀ rows : List (List Value), (∀ r' ∈ rows, ∃ n d ps, DataW.trod enc P W 0 sp held n e r' = some (d, ps)) → ∃ l : List α, rowsR r W.heap (Old W.heap) rows l := by
    intro rows
    induction rows with
    | nil => exact fun _ => ⟨[], rfl, fun i row a h1 => by simp at h1⟩
    | cons r' rs ih =>
      intro hr
      obtain ⟨l, h1, h2⟩ := ih (fun r' h => hr r' (by simp [h]))
      obtain ⟨n, d, ps, h3⟩ := hr r' (by simp)
      obtain ⟨a, h4⟩ := he.rd h3
      refine ⟨a :: l, by simp [h1], fun i row b hi hb => ?_⟩
      cases i with
      | zero => simp at hi hb; subst hi; subst hb; exact h4
      | succ i => exact h2 i row b (by simpa using hi) (by simpa using hb)
  obtain ⟨l, h1, h2⟩ := key rows (fun r' hm => (hr r' hm).2)
  exact ⟨l, v, rfl, hs.lt, by rw [← h1]; exact hm, rows, by rw [← h1]; exact hs, h1, h2⟩
/-- The fields from the cell off on. -/
structure RdF {α : Type} (P : Program) (fs : List Field) (off : Nat) (r : Rp α) : Prop where
  rd : ∀ {H : Type} {enc : TypeId × Value → H} {W : World} {sp : Nat → Bool} {held : Bool} {cs : List Value}, cs.length = off + r.sz →
    (∀ f ∈ fs, ∃ n x, DataW.trod enc P W 0 sp held n f.type ((cs.drop f.offset).take (P.cellsOf f.type)) = some x) → ∃ a, r.R W.heap (Old W.heap) (cs.drop off) a
theorem RdF.nil {off : Nat} : RdF P [] off Rp.unit := ⟨fun hl _ => ⟨(), by
  apply List.eq_nil_of_length_eq_zero
  rw [List.length_drop, hl]; simp [Rp.unit]⟩⟩
theorem RdF.cons {α β : Type} {f : Field} {fs : List Field} {off off' : Nat} {r : Rp α} {s : Rp β} (ho : f.offset = off) (ht : RdT P f.type r) (he : off' = off + r.sz) (hs : RdF P fs off' s) : RdF P (f :: fs) off (r.pair s) := by
  subst he
  refine ⟨fun {H enc W sp held cs} hl hf => ?_⟩
  obtain ⟨n, x, h1⟩ := hf f (by simp)
  obtain ⟨a, h2⟩ := ht.rd h1
  obtain ⟨b, h3⟩ := hs.rd (enc := enc) (W := W) (sp := sp) (held := held) (cs := cs) (by simp only [Rp.pair] at hl; omega) (fun g hg => hf g (by simp [hg]))
  refine ⟨(a, b), (cs.drop off).take r.sz, cs.drop (off + r.sz), ?_, ?_, h3⟩
  · rw [← List.drop_drop]; exact (List.take_append_drop _ _).symm
  · rw [ho, ht.sz] at h2; exact h2
theorem RdT.struct {α : Type} {t : TypeId} {fs : Array Field} {l : List Field} {r : Rp α} (ht : P.underlying t = some (.struct fs)) (hl : fs.toList = l) (hc : P.cellsOf t = r.sz) (hf : RdF P l 0 r) : RdT P t r := by
  subst hl
  refine ⟨hc, fun {H enc W sp held n cs x} h => ?_⟩
  obtain ⟨xs, m, rfl, _, h1, h2, h3⟩ := DataW.trod_struct ht h
  have := hf.rd (enc := enc) (W := W) (sp := sp) (held := held) (cs := cs) (by rw [h1, hc]; omega) (fun f hm => by
    obtain ⟨i, hi⟩ := List.getElem?_of_mem hm
    have hi' : fs[i]? = some f := by simpa using hi
    have := h3 i f hi'
    have hlt : i < xs.length := by
      have := (Array.getElem?_eq_some_iff.1 hi').1
      omega
    rw [List.getElem?_eq_getElem hlt] at this
    exact ⟨m, _, this⟩)
  simpa using this
theorem RdT.iso {α β : Type} {t : TypeId} {r : Rp α} (hr : RdT P t r) (g : β → α) (f : α → β) (hg : ∀ a, g (f a) = a) : RdT P t (r.iso g) :=
  ⟨hr.sz, fun h => by obtain ⟨a, ha⟩ := hr.rd h; exact ⟨f a, by simpa only [Rp.iso, hg] using ha⟩⟩
/-- An argument. -/
theorem RdT.arg {α H : Type} {enc : TypeId × Value → H} {t : TypeId} {r : Rp α} (hr : RdT P t r) {W : World} {sp : Nat → Bool} {held : Bool} {v : Value} {d : DataW H} {ps : List MemPlace} (h : DataW.Trod enc P W 0 sp held t v d ps) :
    ∃ a, r.R W.heap (Old W.heap) v.cells.toList a := by
  obtain ⟨n, h⟩ := h
  exact hr.rd h
end
end Go.CF
