/- Walks over abstract values: what is read and what is one's own. Generic over the program. -/
import Derived.Test.YtkcbaalbgobndaaEngK
import Derived.Test.YtkcbaalbgobndaaEngI
namespace Go.CF
open Go

/-- On the blocks of S nothing turned. -/
structure FPx (S : Nat → Prop) (h h' : Heap) : Prop where
  size : h.size ≤ h'.size
  same : ∀ b, S b → b < h.size → h'[b]? = h[b]?
theorem FPx.refl {S : Nat → Prop} (h : Heap) : FPx S h h := ⟨Nat.le_refl _, fun _ _ _ => rfl⟩
theorem FPx.mono {S S' : Nat → Prop} {h h' : Heap} (x : FPx S h h') (hs : ∀ b, S' b → S b) : FPx S' h h' := ⟨x.size, fun b hb hl => x.same b (hs b hb) hl⟩

/-- An abstract value: what a value must be, at a heap of which the blocks G may be read. -/
structure AV where
  R : Heap → (Nat → Prop) → Value → Prop
  stp : ∀ {h h' G v}, FPx G h h' → R h G v → R h' G v
  mono : ∀ {h G G' v}, (∀ b, G b → G' b) → R h G v → R h G' v

/-- Something of one's own: it lies in the blocks O. -/
structure Res where
  R : Heap → (Nat → Prop) → (Nat → Prop) → Prop
  stp : ∀ {h h' O G}, FPx (fun b => O b ∨ G b) h h' → R h O G → R h' O G
  mono : ∀ {h O G G'}, (∀ b, G b → G' b) → R h O G → R h O G'

def AV.val (v : Value) : AV := ⟨fun _ _ u => u = v, fun _ h => h, fun _ h => h⟩
/-- A slice of one's own. -/
def AV.ow (v : Value) : AV := ⟨fun _ _ u => u = v ∧ ∃ p len cap, v = .slice p len cap, fun _ h => h, fun _ h => h⟩
/-- A pointer into a slice of one's own: to the cell r of the element j. -/
def AV.oe (v : Value) (sz j r : Nat) : AV := ⟨fun _ _ u => ∃ b o len cap, v = .slice (some ⟨b, o, none⟩) len cap ∧ u = .pointer (some ⟨b, o + j * sz + r, none⟩), fun _ h => h, fun _ h => h⟩
/-- A part of a slice of one's own: m elements from the element j on. -/
def AV.os (v : Value) (sz j m : Nat) : AV := ⟨fun _ _ u => ∃ p len cap, v = .slice p len cap ∧ j + m ≤ len ∧ u = .slice (subA p sz j cap) m (cap - j), fun _ h => h, fun _ h => h⟩

def RepT (h : Heap) (G : Nat → Prop) : List Value → List AV → Prop
  | [], [] => True
  | v :: vs, a :: as => a.R h G v ∧ RepT h G vs as
  | _, _ => False
theorem RepT.stp {h h' : Heap} {G : Nat → Prop} (x : FPx G h h') : ∀ {vs : List Value} {as : List AV}, RepT h G vs as → RepT h' G vs as
  | [], [], _ => trivial
  | _ :: _, _ :: _, ⟨h1, h2⟩ => ⟨AV.stp _ x h1, RepT.stp x h2⟩
theorem RepT.mono {h : Heap} {G G' : Nat → Prop} (x : ∀ b, G b → G' b) : ∀ {vs : List Value} {as : List AV}, RepT h G vs as → RepT h G' vs as
  | [], [], _ => trivial
  | _ :: _, _ :: _, ⟨h1, h2⟩ => ⟨AV.mono _ x h1, RepT.mono x h2⟩
theorem RepT.len {h : Heap} {G : Nat → Prop} : ∀ {vs : List Value} {as : List AV}, RepT h G vs as → vs.length = as.length
  | [], [], _ => rfl
  | _ :: _, _ :: _, ⟨_, h2⟩ => by simp [RepT.len h2]
theorem RepT.get {h : Heap} {G : Nat → Prop} : ∀ {vs : List Value} {as : List AV} {i : Nat} {a : AV}, RepT h G vs as → as[i]? = some a → ∃ v, vs[i]? = some v ∧ a.R h G v
  | [], [], i, a, _, h1 => by simp at h1
  | v :: vs, a :: as, 0, b, ⟨h1, _⟩, h2 => ⟨v, rfl, by simp at h2; exact h2 ▸ h1⟩
  | v :: vs, a :: as, i + 1, b, ⟨_, h1⟩, h2 => by simpa using RepT.get h1 (by simpa using h2)
theorem RepT.app {h : Heap} {G : Nat → Prop} : ∀ {v1 v2 : List Value} {a1 a2 : List AV}, RepT h G v1 a1 → RepT h G v2 a2 → RepT h G (v1 ++ v2) (a1 ++ a2)
  | [], _, [], _, _, h2 => h2
  | _ :: _, _, _ :: _, _, ⟨h1, h3⟩, h2 => ⟨h1, h3.app h2⟩
theorem RepT.split {h : Heap} {G : Nat → Prop} : ∀ {vs : List Value} {a1 a2 : List AV}, RepT h G vs (a1 ++ a2) → ∃ v1 v2, vs = v1 ++ v2 ∧ RepT h G v1 a1 ∧ RepT h G v2 a2
  | vs, [], a2, hr => ⟨[], vs, rfl, trivial, hr⟩
  | v :: vs, a :: a1, a2, ⟨h1, h2⟩ => by
    obtain ⟨v1, v2, rfl, h3, h4⟩ := RepT.split h2
    exact ⟨v :: v1, v2, rfl, ⟨h1, h3⟩, h4⟩
  | [], a :: a1, a2, h1 => h1.elim
theorem RepT.take {h : Heap} {G : Nat → Prop} : ∀ {vs : List Value} {as : List AV} (n : Nat), RepT h G vs as → RepT h G (vs.take n) (as.take n)
  | [], [], n, _ => by simp [RepT]
  | v :: vs, a :: as, 0, _ => trivial
  | v :: vs, a :: as, n + 1, ⟨h1, h2⟩ => ⟨h1, h2.take n⟩
theorem RepT.drop {h : Heap} {G : Nat → Prop} : ∀ {vs : List Value} {as : List AV} (n : Nat), RepT h G vs as → RepT h G (vs.drop n) (as.drop n)
  | [], [], n, _ => by simp [RepT]
  | v :: vs, a :: as, 0, hr => hr
  | v :: vs, a :: as, n + 1, ⟨_, h2⟩ => h2.drop n
theorem RepT.set {h : Heap} {G : Nat → Prop} : ∀ {vs : List Value} {as : List AV} (n : Nat) {v : Value} {a : AV}, RepT h G vs as → a.R h G v → RepT h G (vs.set n v) (as.set n a)
  | [], [], n, _, _, _, _ => by simp [RepT]
  | _ :: vs, _ :: as, 0, _, _, ⟨_, h2⟩, h3 => ⟨h3, h2⟩
  | _ :: vs, _ :: as, n + 1, _, _, ⟨h1, h2⟩, h3 => ⟨h1, h2.set n h3⟩

/-- Cells. -/
structure RepL (h : Heap) (G : Nat → Prop) (vs : List Value) (as : List AV) : Prop where
  t : RepT h G vs as
  one : ∀ u ∈ vs, u.oneCell' = true
theorem RepL.stp {h h' : Heap} {G : Nat → Prop} {vs : List Value} {as : List AV} (x : FPx G h h') (r : RepL h G vs as) : RepL h' G vs as := ⟨r.t.stp x, r.one⟩
theorem RepL.mono {h : Heap} {G G' : Nat → Prop} {vs : List Value} {as : List AV} (x : ∀ b, G b → G' b) (r : RepL h G vs as) : RepL h G' vs as := ⟨r.t.mono x, r.one⟩

/-- A struct, or an array. -/
def AV.agg (cs : List AV) : AV := ⟨fun h G u => ∃ vs, u = .agg vs.toArray ∧ RepL h G vs cs, by rintro h h' G v x ⟨vs, e, r⟩; exact ⟨vs, e, r.stp x⟩, by rintro h G G' v x ⟨vs, e, r⟩; exact ⟨vs, e, r.mono x⟩⟩
/-- Several results. -/
def AV.tup (cs : List AV) : AV := ⟨fun h G u => ∃ vs, u = .tuple vs.toArray ∧ RepT h G vs cs, by rintro h h' G v x ⟨vs, e, r⟩; exact ⟨vs, e, r.stp x⟩, by rintro h G G' v x ⟨vs, e, r⟩; exact ⟨vs, e, r.mono x⟩⟩
/-- A function value, with what it has captured. -/
def AV.fn (f : FuncId) (cs : List AV) : AV := ⟨fun h G u => ∃ vs, u = .func (.func f) #[] vs.toArray ∧ RepT h G vs cs, by rintro h h' G v x ⟨vs, e, r⟩; exact ⟨vs, e, r.stp x⟩, by rintro h G G' v x ⟨vs, e, r⟩; exact ⟨vs, e, r.mono x⟩⟩

theorem Cels.of_block {h h' : Heap} {b o : Nat} {l : List Value} (he : h'[b]? = h[b]?) (hc : Cels h ⟨b, o, none⟩ l) : Cels h' ⟨b, o, none⟩ l :=
  ⟨fun j v hv => Cel.of_block (by rw [addr_add]; exact he) (hc.get j v hv)⟩
/-- A pointer to cells that may be read, k cells behind the first. -/
def AV.ad (cs : List AV) (k : Nat) : AV := ⟨fun h G u => ∃ b o vs, u = .pointer (some ⟨b, o + k, none⟩) ∧ G b ∧ b < h.size ∧ Cels h ⟨b, o, none⟩ vs ∧ RepL h G vs cs,
  fun x ⟨b, o, vs, e, g, l, c, r⟩ => ⟨b, o, vs, e, g, Nat.lt_of_lt_of_le l x.size, c.of_block (x.same b g l), r.stp x⟩, fun x ⟨b, o, vs, e, g, l, c, r⟩ => ⟨b, o, vs, e, x b g, l, c, r.mono x⟩⟩

/-- Rows of cells. -/
structure Rows {α : Type} (h : Heap) (G : Nat → Prop) (sz : Nat) (rows : List (List Value)) (l : List α) (f : α → List AV) : Prop where
  len : rows.length = l.length
  row : ∀ (i : Nat) (r : List Value) (x : α), rows[i]? = some r → l[i]? = some x → RepL h G r (f x)
  sz : ∀ r ∈ rows, r.length = sz
section
variable {α : Type} {h h' : Heap} {G G' : Nat → Prop} {sz : Nat} {rows : List (List Value)} {l : List α} {f : α → List AV}
theorem Rows.stp (x : FPx G h h') (r : Rows h G sz rows l f) : Rows h' G sz rows l f := ⟨r.len, fun i a b h1 h2 => (r.row i a b h1 h2).stp x, r.sz⟩
theorem Rows.mono (x : ∀ b, G b → G' b) (r : Rows h G sz rows l f) : Rows h G' sz rows l f := ⟨r.len, fun i a b h1 h2 => (r.row i a b h1 h2).mono x, r.sz⟩
theorem Rows.flen (r : Rows h G sz rows l f) : rows.flatten.length = l.length * sz := by
  have key : ∀ rows : List (List Value), (∀ r ∈ rows, r.length = sz) → rows.flatten.length = rows.length * sz := by
    intro rows
    induction rows with
    | nil => simp
    | cons a rs ih => intro h1; rw [List.flatten_cons, List.length_append, h1 a (by simp), ih (fun r hr => h1 r (by simp [hr])), List.length_cons, Nat.add_mul]; omega
  rw [key rows r.sz, r.len]
theorem Rows.one (r : Rows h G sz rows l f) : ∀ u ∈ rows.flatten, u.oneCell' = true := by
  intro u hu
  obtain ⟨row, hr, hu⟩ := List.mem_flatten.1 hu
  obtain ⟨i, hi⟩ := List.getElem?_of_mem hr
  have hlt := (List.getElem?_eq_some_iff.1 hi).1
  exact (r.row i row _ hi (List.getElem?_eq_getElem (by rw [← r.len]; exact hlt))).one u hu
theorem Rows.at (r : Rows h G sz rows l f) {i : Nat} {x : α} (hi : l[i]? = some x) : ∃ row, rows[i]? = some row ∧ RepL h G row (f x) ∧ row.length = sz := by
  have hlt := (List.getElem?_eq_some_iff.1 hi).1
  have h1 : rows[i]? = some (rows[i]'(by rw [r.len]; exact hlt)) := List.getElem?_eq_getElem _
  exact ⟨_, h1, r.row i _ x h1 hi, r.sz _ (List.getElem_mem _)⟩
theorem Rows.nil : Rows h G sz [] ([] : List α) f := ⟨rfl, fun i r x h1 => by simp at h1, fun r hr => by cases hr⟩
theorem Rows.app {m : List α} {rows2 : List (List Value)} (r : Rows h G sz rows l f) (s : Rows h G sz rows2 m f) : Rows h G sz (rows ++ rows2) (l ++ m) f := by
  refine ⟨by simp [r.len, s.len], fun i a b h1 h2 => ?_, fun a ha => (List.mem_append.1 ha).elim (r.sz a) (s.sz a)⟩
  by_cases hi : i < rows.length
  · rw [List.getElem?_append_left hi] at h1
    rw [List.getElem?_append_left (by rw [← r.len]; exact hi)] at h2
    exact r.row i a b h1 h2
  · rw [List.getElem?_append_right (by omega)] at h1
    rw [List.getElem?_append_right (by rw [← r.len]; omega), ← r.len] at h2
    exact s.row _ a b h1 h2
theorem Rows.take (r : Rows h G sz rows l f) (m : Nat) : Rows h G sz (rows.take m) (l.take m) f := by
  refine ⟨by simp [r.len], fun i a b h1 h2 => ?_, fun a ha => r.sz a (List.mem_of_mem_take ha)⟩
  rw [List.getElem?_take] at h1 h2
  split at h1
  · rename_i hm; rw [if_pos hm] at h2; exact r.row i a b h1 h2
  · cases h1
theorem Rows.drop (r : Rows h G sz rows l f) (m : Nat) : Rows h G sz (rows.drop m) (l.drop m) f := by
  refine ⟨by simp [r.len], fun i a b h1 h2 => ?_, fun a ha => r.sz a (List.mem_of_mem_drop ha)⟩
  rw [List.getElem?_drop] at h1 h2
  exact r.row _ a b h1 h2
theorem Rows.set (r : Rows h G sz rows l f) {i : Nat} {row : List Value} {x : α} (hr : RepL h G row (f x)) (hs : row.length = sz) : Rows h G sz (rows.set i row) (l.set i x) f := by
  refine ⟨by simp [r.len], fun j a b h1 h2 => ?_, fun a ha => (List.mem_or_eq_of_mem_set ha).elim (r.sz a) (fun e => e ▸ hs)⟩
  rw [List.getElem?_set] at h1 h2
  by_cases hij : i = j
  · subst hij
    rw [if_pos rfl] at h1 h2
    split at h1
    · rename_i hlt
      rw [if_pos (by rw [← r.len]; exact hlt)] at h2
      cases h1; cases h2; exact hr
    · cases h1
  · rw [if_neg hij] at h1 h2
    exact r.row j a b h1 h2
end

/-- A slice that may be read: the elements of l, each as the cells f. -/
def AV.sl {α : Type} (sz : Nat) (l : List α) (f : α → List AV) : AV :=
  ⟨fun h G u => l.length ≤ 9223372036854775807 ∧ ((l = [] ∧ ∃ p cap, u = .slice p 0 cap) ∨ ∃ b o cap rows, u = .slice (some ⟨b, o, none⟩) l.length cap ∧ 0 < l.length ∧ l.length ≤ cap ∧ G b ∧ b < h.size ∧ Cels h ⟨b, o, none⟩ rows.flatten ∧ Rows h G sz rows l f),
   fun x ⟨hm, hr⟩ => ⟨hm, hr.imp id fun ⟨b, o, cap, rows, e, h1, h2, g, lt, c, r⟩ => ⟨b, o, cap, rows, e, h1, h2, g, Nat.lt_of_lt_of_le lt x.size, c.of_block (x.same b g lt), r.stp x⟩⟩,
   fun x ⟨hm, hr⟩ => ⟨hm, hr.imp id fun ⟨b, o, cap, rows, e, h1, h2, g, lt, c, r⟩ => ⟨b, o, cap, rows, e, h1, h2, x b g, lt, c, r.mono x⟩⟩⟩

/-- A block of one's own. -/
def blkR (b : Nat) (T : TypeId) (cs : List AV) : Res :=
  ⟨fun h O G => (∀ x, O x ↔ x = b) ∧ ∃ vs, Blk h b T vs ∧ RepL h G vs cs,
   fun x ⟨ho, vs, hb, r⟩ => ⟨ho, vs, ⟨(x.same b (.inl ((ho b).2 rfl)) hb.lt).trans hb.get⟩, r.stp (x.mono fun _ => .inr)⟩,
   fun x ⟨ho, vs, hb, r⟩ => ⟨ho, vs, hb, r.mono x⟩⟩
/-- A slice of one's own. -/
def arrR {α : Type} (v : Value) (T : TypeId) (sz : Nat) (l : List α) (f : α → List AV) : Res :=
  ⟨fun h O G => (∀ x, O x ↔ x ∈ blkOf v) ∧ ∃ rows, Own h v T sz l.length rows.flatten ∧ Rows h G sz rows l f,
   fun x ⟨ho, rows, hb, r⟩ => ⟨ho, rows, by
      rcases hb.ok with h1 | ⟨b, o, cap, L, e, hbl, h1, h2, h3⟩
      · exact ⟨hb.len_vs, .inl h1⟩
      · exact ⟨hb.len_vs, .inr ⟨b, o, cap, L, e, ⟨(x.same b (.inl ((ho b).2 (by simp [e, blkOf]))) hbl.lt).trans hbl.get⟩, h1, h2, h3⟩⟩, r.stp (x.mono fun _ => .inr)⟩,
   fun x ⟨ho, rows, hb, r⟩ => ⟨ho, rows, hb, r.mono x⟩⟩

def OwnL (h : Heap) (G : Nat → Prop) : List Res → List (Nat → Prop) → Prop
  | [], [] => True
  | R :: rs, O :: os => R.R h O G ∧ OwnL h G rs os
  | _, _ => False
theorem OwnL.stp {h h' : Heap} {G : Nat → Prop} : ∀ {rs : List Res} {os : List (Nat → Prop)}, (∀ O ∈ os, FPx (fun b => O b ∨ G b) h h') → OwnL h G rs os → OwnL h' G rs os
  | [], [], _, _ => trivial
  | R :: _, O :: _, x, ⟨h1, h2⟩ => ⟨R.stp (x O (by simp)) h1, OwnL.stp (fun O hO => x O (by simp [hO])) h2⟩
theorem OwnL.mono {h : Heap} {G G' : Nat → Prop} (x : ∀ b, G b → G' b) : ∀ {rs : List Res} {os : List (Nat → Prop)}, OwnL h G rs os → OwnL h G' rs os
  | [], [], _ => trivial
  | R :: _, _ :: _, ⟨h1, h2⟩ => ⟨R.mono x h1, OwnL.mono x h2⟩
theorem OwnL.app {h : Heap} {G : Nat → Prop} : ∀ {r1 r2 : List Res} {o1 o2 : List (Nat → Prop)}, OwnL h G r1 o1 → OwnL h G r2 o2 → OwnL h G (r1 ++ r2) (o1 ++ o2)
  | [], _, [], _, _, h2 => h2
  | _ :: _, _, _ :: _, _, ⟨h1, h3⟩, h2 => ⟨h1, h3.app h2⟩
theorem OwnL.split {h : Heap} {G : Nat → Prop} : ∀ {r1 r2 : List Res} {os : List (Nat → Prop)}, OwnL h G (r1 ++ r2) os → ∃ o1 o2, os = o1 ++ o2 ∧ OwnL h G r1 o1 ∧ OwnL h G r2 o2
  | [], r2, os, hr => ⟨[], os, rfl, trivial, hr⟩
  | R :: r1, r2, O :: os, ⟨h1, h2⟩ => by
    obtain ⟨o1, o2, rfl, h3, h4⟩ := OwnL.split h2
    exact ⟨O :: o1, o2, rfl, ⟨h1, h3⟩, h4⟩
  | R :: r1, r2, [], h1 => h1.elim

/-- What is known: what the temporaries hold, and what is one's own. -/
structure AS where
  env : List (Nat × AV)
  own : List Res
def lookA : List (Nat × AV) → Nat → Option AV
  | [], _ => none
  | (k, v) :: r, t => bif Nat.beq k t then some v else lookA r t
theorem lookA_cons (k : Nat) (v : AV) (r : List (Nat × AV)) (t : Nat) : lookA ((k, v) :: r) t = if k = t then some v else lookA r t := by
  simp only [lookA]
  by_cases h : k = t
  · subst h; simp
  · have : Nat.beq k t = false := beq_of_ne h
    simp [this, h]
def evA (e : List (Nat × AV)) : Operand → Option AV
  | .tmp t => lookA e t
  | .const v => some (.val v)
  | .global g => some (.val (.pointer (some ⟨g, 0, none⟩)))
  | .func f => some (.fn f [])
def evAs (e : List (Nat × AV)) : List Operand → Option (List AV)
  | [] => some []
  | x :: r => match evA e x, evAs e r with
    | some v, some l => some (v :: l)
    | _, _ => none

/-- What a walk is about. -/
structure Cx where
  P : Program
  tt : Nat → Option TI
  en : Nat → Bool
  ok : PgOK P tt en
  T : Nat → Ord × (Nat → Cls)
  n : Nat
  rs : Array ResultVar
  K : AV → List Res → Prop
  h0 : Heap
  G0 : Nat → Prop
  O0 : Nat → Prop

abbrev Apart (os : List (Nat → Prop)) : Prop := os.Pairwise fun A B => ∀ b, A b → ¬ B b

/-- A heap in which these things lie. -/
structure HpOK (h0 : Heap) (G0 O0 : Nat → Prop) (own : List Res) (h : Heap) (G : Nat → Prop) (Os : List (Nat → Prop)) : Prop where
  own : OwnL h G own Os
  g : ∀ b, G b → b < h.size ∧ (G0 b ∨ O0 b ∨ h0.size ≤ b)
  g0 : ∀ b, G0 b → G b
  o : ∀ O ∈ Os, ∀ b, O b → b < h.size ∧ (O0 b ∨ h0.size ≤ b) ∧ ¬ G b
  d : Apart Os
  fp : FPx (fun b => ¬ O0 b) h0 h
structure Con (Γ : Cx) (σ : AS) (env : Env) (h : Heap) (G : Nat → Prop) (Os : List (Nat → Prop)) : Prop where
  hp : HpOK Γ.h0 Γ.G0 Γ.O0 σ.own h G Os
  env : ∀ t a, lookA σ.env t = some a → ∃ v, look env t = some v ∧ a.R h G v

section
variable {Γ : Cx} {σ : AS} {env : Env} {h : Heap} {G : Nat → Prop} {Os : List (Nat → Prop)}
theorem Con.get (c : Con Γ σ env h G Os) {x : Operand} {a : AV} (hx : evA σ.env x = some a) : ∃ v, ev env x = some v ∧ a.R h G v := by
  cases x with
  | tmp t => exact c.env t a hx
  | const v => simp only [evA, Option.some.injEq] at hx; subst hx; exact ⟨v, rfl, rfl⟩
  | global g => simp only [evA, Option.some.injEq] at hx; subst hx; exact ⟨_, rfl, rfl⟩
  | func f => simp only [evA, Option.some.injEq] at hx; subst hx; exact ⟨_, rfl, [], rfl, trivial⟩
theorem Con.gets (c : Con Γ σ env h G Os) : ∀ {xs : List Operand} {as : List AV}, evAs σ.env xs = some as → ∃ vs, evs env xs = some vs ∧ RepT h G vs as
  | [], as, hx => by simp only [evAs, Option.some.injEq] at hx; subst hx; exact ⟨[], rfl, trivial⟩
  | x :: r, as, hx => by
    simp only [evAs] at hx
    split at hx
    · rename_i a l h1 h2
      simp only [Option.some.injEq] at hx
      subst hx
      obtain ⟨v, e1, r1⟩ := c.get h1
      obtain ⟨vs, e2, r2⟩ := c.gets h2
      exact ⟨v :: vs, by simp [evs, e1, e2], r1, r2⟩
    · cases hx
theorem Con.put (c : Con Γ σ env h G Os) (d : Nat) {a : AV} {v : Value} (hr : a.R h G v) : Con Γ ⟨(d, a) :: σ.env, σ.own⟩ ((d, v) :: env) h G Os := by
  refine ⟨c.hp, fun t b hb => ?_⟩
  rw [lookA_cons] at hb
  rw [look_cons]
  by_cases hd : d = t
  · rw [if_pos hd] at hb ⊢; cases hb; exact ⟨v, rfl, hr⟩
  · rw [if_neg hd] at hb ⊢; exact c.env t b hb

/-- Taking one thing out of a list. -/
inductive Take : List Res → Res → List Res → Prop where
  | here {R : Res} {l : List Res} : Take (R :: l) R l
  | there {R S : Res} {l l' : List Res} : Take l R l' → Take (S :: l) R (S :: l')
theorem Take.own {rs : List Res} {R : Res} {rest : List Res} (t : Take rs R rest) : ∀ {os : List (Nat → Prop)}, OwnL h G rs os → ∃ O os', R.R h O G ∧ OwnL h G rest os' ∧ os.Perm (O :: os') := by
  induction t with
  | here =>
    intro os ho
    match os, ho with
    | O :: os, ⟨h1, h2⟩ => exact ⟨O, os, h1, h2, List.Perm.refl _⟩
  | there _ ih =>
    intro os ho
    match os, ho with
    | O :: os, ⟨h1, h2⟩ =>
      obtain ⟨O', os', h3, h4, h5⟩ := ih h2
      exact ⟨O', O :: os', h3, ⟨h1, h4⟩, (List.Perm.cons O h5).trans (List.Perm.swap O' O os')⟩
theorem HpOK.perm {h0 : Heap} {G0 O0 : Nat → Prop} {own own' : List Res} {Os' : List (Nat → Prop)} (c : HpOK h0 G0 O0 own h G Os) (ho : OwnL h G own' Os') (hp : Os.Perm Os') : HpOK h0 G0 O0 own' h G Os' :=
  ⟨ho, c.g, c.g0, fun O hO => c.o O (hp.mem_iff.2 hO), (List.Perm.pairwise_iff (fun hab b h1 h2 => hab b h2 h1) hp).1 c.d, c.fp⟩
theorem HpOK.take {h0 : Heap} {G0 O0 : Nat → Prop} {own : List Res} (c : HpOK h0 G0 O0 own h G Os) {R : Res} {rest : List Res} (t : Take own R rest) : ∃ O Os', HpOK h0 G0 O0 (R :: rest) h G (O :: Os') := by
  obtain ⟨O, os', h1, h2, h3⟩ := t.own c.own
  exact ⟨O, os', c.perm ⟨h1, h2⟩ h3⟩
theorem Con.take (c : Con Γ σ env h G Os) {R : Res} {rest : List Res} (t : Take σ.own R rest) : ∃ O Os', Con Γ ⟨σ.env, R :: rest⟩ env h G (O :: Os') := by
  obtain ⟨O, os', h1⟩ := c.hp.take t
  exact ⟨O, os', h1, c.env⟩
/-- The same things stand in another order, some are let go. -/
inductive Subl : List Res → List Res → Prop where
  | nil {l : List Res} : Subl l []
  | cons {l rest l' : List Res} {R : Res} : Take l R rest → Subl rest l' → Subl l (R :: l')
theorem HpOK.drop {h0 : Heap} {G0 O0 : Nat → Prop} {R : Res} {rest : List Res} {O : Nat → Prop} (c : HpOK h0 G0 O0 (R :: rest) h G (O :: Os)) : HpOK h0 G0 O0 rest h G Os :=
  ⟨c.own.2, c.g, c.g0, fun O hO => c.o O (by simp [hO]), (List.pairwise_cons.1 c.d).2, c.fp⟩
theorem HpOK.sub {h0 : Heap} {G0 O0 : Nat → Prop} {own own' : List Res} (s : Subl own own') : ∀ {Os : List (Nat → Prop)}, HpOK h0 G0 O0 own h G Os → ∃ Os', HpOK h0 G0 O0 own' h G Os' ∧ ∀ O ∈ Os', O ∈ Os := by
  induction s with
  | nil => exact fun c => ⟨[], ⟨trivial, c.g, c.g0, fun O hO => (by cases hO), List.Pairwise.nil, c.fp⟩, fun O hO => (by cases hO)⟩
  | @cons l rest l' R t _ ih =>
    intro Os c
    obtain ⟨O, os', h1, h2, h3⟩ := t.own c.own
    have c1 : HpOK h0 G0 O0 (R :: rest) h G (O :: os') := c.perm ⟨h1, h2⟩ h3
    obtain ⟨Os2, c2, hs⟩ := ih c1.drop
    refine ⟨O :: Os2, ⟨⟨h1, c2.own⟩, c.g, c.g0, fun X hX => ?_, List.pairwise_cons.2 ⟨fun X hX => (List.pairwise_cons.1 c1.d).1 X (hs X hX), c2.d⟩, c.fp⟩, fun X hX => ?_⟩
    · rcases List.mem_cons.1 hX with rfl | hX
      · exact c1.o _ (by simp)
      · exact c2.o X hX
    · rcases List.mem_cons.1 hX with rfl | hX
      · exact h3.mem_iff.2 (by simp)
      · exact h3.mem_iff.2 (by simp [hs X hX])

/-- Writing within one thing, and into new blocks. -/
theorem HpOK.upd {h0 : Heap} {G0 O0 : Nat → Prop} {R R' : Res} {rest : List Res} {O O' : Nat → Prop} {h' : Heap} (c : HpOK h0 G0 O0 (R :: rest) h G (O :: Os)) (x : FPx (fun b => ¬ O b) h h') (hO : ∀ b, O' b → b < h'.size ∧ (O b ∨ h.size ≤ b)) (hr : R'.R h' O' G) :
    HpOK h0 G0 O0 (R' :: rest) h' G (O' :: Os) ∧ FPx G h h' := by
  have hg : FPx G h h' := x.mono fun b hb ho => (c.o O (by simp) b ho).2.2 hb
  have hd := List.pairwise_cons.1 c.d
  have hs := c.fp.size
  have hs2 := x.size
  have hno : ∀ X ∈ Os, ∀ b, X b → ¬ O' b := fun X hX b hb ho => by
    rcases (hO b ho).2 with h1 | h1
    · exact hd.1 X hX b h1 hb
    · have := (c.o X (by simp [hX]) b hb).1; omega
  refine ⟨⟨⟨hr, OwnL.stp (fun X hX => x.mono fun b hb ho => ?_) c.own.2⟩, fun b hb => ⟨Nat.lt_of_lt_of_le (c.g b hb).1 x.size, (c.g b hb).2⟩, c.g0, fun X hX b hb => ?_, List.pairwise_cons.2 ⟨fun X hX b h1 h2 => hno X hX b h2 h1, hd.2⟩, ⟨Nat.le_trans hs hs2, fun b hb hl => ?_⟩⟩, hg⟩
  · rcases hb with hb | hb
    · exact hd.1 X hX b ho hb
    · exact (c.o O (by simp) b ho).2.2 hb
  · rcases List.mem_cons.1 hX with rfl | hX
    · obtain ⟨h1, h2⟩ := hO b hb
      rcases h2 with h2 | h2
      · have := c.o O (by simp) b h2; exact ⟨h1, this.2⟩
      · exact ⟨h1, .inr (by omega), fun hgb => by have := (c.g b hgb).1; omega⟩
    · have := c.o X (by simp [hX]) b hb
      exact ⟨by omega, this.2⟩
  · rw [x.same b (fun ho => ?_) (Nat.lt_of_lt_of_le hl hs)]
    · exact c.fp.same b hb hl
    · rcases (c.o O (by simp) b ho).2.1 with h1 | h1
      · exact hb h1
      · omega
theorem Con.upd {R R' : Res} {e : List (Nat × AV)} {rest : List Res} {O O' : Nat → Prop} {h' : Heap} (c : Con Γ ⟨e, R :: rest⟩ env h G (O :: Os)) (x : FPx (fun b => ¬ O b) h h') (hO : ∀ b, O' b → b < h'.size ∧ (O b ∨ h.size ≤ b)) (hr : R'.R h' O' G) :
    Con Γ ⟨e, R' :: rest⟩ env h' G (O' :: Os) := by
  obtain ⟨h1, h2⟩ := c.hp.upd x hO hr
  refine ⟨h1, fun t a ha => ?_⟩
  obtain ⟨v, h3, h4⟩ := c.env t a ha
  exact ⟨v, h3, a.stp h2 h4⟩
def empR : Res := ⟨fun _ O _ => ∀ b, ¬ O b, fun _ h => h, fun _ h => h⟩
theorem Con.emp (c : Con Γ σ env h G Os) : Con Γ ⟨σ.env, empR :: σ.own⟩ env h G ((fun _ => False) :: Os) :=
  ⟨⟨⟨fun _ h => h, c.hp.own⟩, c.hp.g, c.hp.g0, fun O hO b hb => by
      rcases List.mem_cons.1 hO with rfl | hO
      · exact hb.elim
      · exact c.hp.o O hO b hb, List.pairwise_cons.2 ⟨fun _ _ _ h => h.elim, c.hp.d⟩, c.hp.fp⟩, c.env⟩
/-- A new block. -/
theorem Con.new (c : Con Γ σ env h G Os) {b : Nat} {T : TypeId} {vs : List Value} {h' : Heap} (x : New h b T vs h') {R : Res} {O : Nat → Prop} (hO : ∀ y, O y → y = b) (hr : R.R h' O G) : Con Γ ⟨σ.env, R :: σ.own⟩ env h' G (O :: Os) :=
  c.emp.upd ⟨(x.stp (fp := [])).size, fun y _ hl => (x.stp (fp := [])).same y hl (by simp)⟩ (fun y hy => by have := x.size; have := x.eb; have := hO y hy; omega) hr
theorem Con.gnew (_ : Con Γ σ env h G Os) {b : Nat} {T : TypeId} {vs : List Value} {h' : Heap} (x : New h b T vs h') : FPx G h h' := ⟨(x.stp (fp := [])).size, fun y _ hl => (x.stp (fp := [])).same y hl (by simp)⟩
/-- What is one's own may be read for good. -/
theorem Con.freeze {R : Res} {e : List (Nat × AV)} {rest : List Res} {O : Nat → Prop} (c : Con Γ ⟨e, R :: rest⟩ env h G (O :: Os)) : Con Γ ⟨e, rest⟩ env h (fun b => G b ∨ O b) Os := by
  have hd := List.pairwise_cons.1 c.hp.d
  refine ⟨⟨c.hp.own.2.mono fun _ => .inl, fun b hb => ?_, fun b hb => .inl (c.hp.g0 b hb), fun X hX b hb => ?_, hd.2, c.hp.fp⟩, fun t a ha => ?_⟩
  · rcases hb with hb | hb
    · exact c.hp.g b hb
    · have := c.hp.o O (by simp) b hb; exact ⟨this.1, .inr this.2.1⟩
  · have := c.hp.o X (by simp [hX]) b hb
    exact ⟨this.1, this.2.1, fun hg => hg.elim this.2.2 (fun ho => hd.1 X hX b ho hb)⟩
  · obtain ⟨v, h3, h4⟩ := c.env t a ha
    exact ⟨v, h3, a.mono (fun _ => .inl) h4⟩
end
end Go.CF
