/- Slices of one's own whose elements are read by an Rp; parts of slices. Generic over the program. -/
import Derived.Test.YtkcbaalbgobndaaEngH
import Derived.Test.YtkcbaalbgobndaaEngK
namespace Go.CF
open Go

theorem own_setG {h : Heap} {b o len cap T sz : Nat} {c : List Value} (ho : Own h (.slice (some ⟨b, o, none⟩) len cap) T sz len c) {i : Nat} (hi : i < len * sz) :
    ∃ L, Blk h b T L ∧ o + len * sz ≤ L.length ∧ ∀ h' x, Upd h b T (L.set (o + i) x) h' → Own h' (.slice (some ⟨b, o, none⟩) len cap) T sz len (c.set i x) := by
  have hlv := ho.len_vs
  rcases ho.ok with ⟨h1, _⟩ | ⟨b', o', cap', L, he, hb, h1, h2, h3⟩
  · cases h1
  cases he
  have hcl : len * sz ≤ cap * sz := Nat.mul_le_mul_right _ h2
  refine ⟨L, hb, by omega, fun h' x hu => ⟨by rw [List.length_set]; exact hlv, .inr ⟨b, o, cap, _, rfl, hu.blk, by rw [List.length_set]; exact h1, h2, ?_⟩⟩⟩
  rw [← h3]
  apply List.ext_getElem?
  intro j
  simp only [List.getElem?_take, List.getElem?_drop, List.getElem?_set, List.length_take, List.length_drop]
  by_cases hj : j < len * sz
  · rw [if_pos hj]
    by_cases hij : i = j
    · subst hij
      rw [if_pos rfl, if_pos (by omega), if_pos rfl, if_pos (by omega)]
    · rw [if_neg (by omega), if_neg hij, if_pos hj]
  · rw [if_neg hj, if_neg hj]
    by_cases hij : i = j
    · omega
    · rw [if_neg hij]

theorem flatten_set {sz : Nat} : ∀ (rows : List (List Value)) (i k : Nat) (r : List Value) (w : Value), (∀ r ∈ rows, r.length = sz) → rows[i]? = some r → k < sz → (rows.set i (r.set k w)).flatten = rows.flatten.set (i * sz + k) w
  | [], i, _, _, _, _, h, _ => by simp at h
  | x :: rs, 0, k, r, w, hr, h, hk => by
    simp at h; subst h
    have hx := hr x (by simp)
    rw [List.set_cons_zero, List.flatten_cons, List.flatten_cons, Nat.zero_mul, Nat.zero_add, List.set_append_left _ _ (by omega)]
  | x :: rs, i + 1, k, r, w, hr, h, hk => by
    have hx := hr x (by simp)
    have ih := flatten_set rs i k r w (fun r h => hr r (by simp [h])) (by simpa using h) hk
    rw [List.set_cons_succ, List.flatten_cons, List.flatten_cons, ih, List.set_append_right _ _ (by rw [hx, Nat.add_mul]; omega)]
    congr 1
    rw [hx, Nat.add_mul]
    congr 1
    omega
theorem flatten_take {sz : Nat} : ∀ (rows : List (List Value)) (i : Nat), (∀ r ∈ rows, r.length = sz) → (rows.take i).flatten = rows.flatten.take (i * sz)
  | [], i, _ => by simp
  | x :: rs, 0, _ => by simp
  | x :: rs, i + 1, hr => by
    have hx := hr x (by simp)
    rw [List.take_succ_cons, List.flatten_cons, List.flatten_cons, flatten_take rs i (fun r h => hr r (by simp [h])), List.take_append, hx, List.take_of_length_le (l := x) (by rw [hx, Nat.add_mul]; omega)]
    congr 2
    rw [Nat.add_mul]; omega
theorem flatten_drop {sz : Nat} : ∀ (rows : List (List Value)) (i : Nat), (∀ r ∈ rows, r.length = sz) → (rows.drop i).flatten = rows.flatten.drop (i * sz)
  | [], i, _ => by simp
  | x :: rs, 0, _ => by simp
  | x :: rs, i + 1, hr => by
    have hx := hr x (by simp)
    rw [List.drop_succ_cons, List.flatten_cons, flatten_drop rs i (fun r h => hr r (by simp [h])), List.drop_append, hx, List.drop_of_length_le (l := x) (by rw [hx, Nat.add_mul]; omega), List.nil_append]
    congr 1
    rw [Nat.add_mul]; omega
theorem flatten_len {sz : Nat} : ∀ (rows : List (List Value)), (∀ r ∈ rows, r.length = sz) → rows.flatten.length = rows.length * sz
  | [], _ => by simp
  | x :: rs, hr => by
    rw [List.flatten_cons, List.length_append, hr x (by simp), flatten_len rs (fun r h => hr r (by simp [h])), List.length_cons, Nat.add_mul]; omega

section
variable {α : Type} {r : Rp α} {h : Heap} {F : Nat → Prop} {l : List α} {rows : List (List Value)}
theorem rowsR.all (hr : rowsR r h F rows l) : ∀ row ∈ rows, row.length = r.sz := by
  intro row hm
  obtain ⟨j, hj⟩ := List.getElem?_of_mem hm
  have hjl := (List.getElem?_eq_some_iff.1 hj).1
  have := hr.1
  exact r.len (hr.2 j row (l[j]'(by omega)) hj (List.getElem?_eq_getElem _))
theorem rowsR.one (hr : rowsR r h F rows l) : ∀ u ∈ rows.flatten, u.oneCell' = true := by
  intro u hu
  obtain ⟨row, hm, hu⟩ := List.mem_flatten.1 hu
  obtain ⟨j, hj⟩ := List.getElem?_of_mem hm
  have hjl := (List.getElem?_eq_some_iff.1 hj).1
  have := hr.1
  exact r.one (hr.2 j row (l[j]'(by omega)) hj (List.getElem?_eq_getElem _)) u hu
theorem rowsR.flen (hr : rowsR r h F rows l) : rows.flatten.length = l.length * r.sz := by rw [flatten_len rows hr.all, hr.1]
theorem rowsR.mono {G : Nat → Prop} (hm : ∀ b, F b → G b) (hr : rowsR r h F rows l) : rowsR r h G rows l := ⟨hr.1, fun i row a h1 h2 => r.mono hm (hr.2 i row a h1 h2)⟩
theorem rowsR.stp {h' : Heap} {fp : List Nat} (x : Stp fp h h') (hn : ∀ b, F b → b ∉ fp) (hr : rowsR r h F rows l) : rowsR r h' F rows l := ⟨hr.1, fun i row a h1 h2 => r.stp x hn (hr.2 i row a h1 h2)⟩
theorem rowsR.lt (hr : rowsR r h F rows l) : rowsR r h (fun b => F b ∧ b < h.size) rows l := ⟨hr.1, fun i row a h1 h2 => r.lt (hr.2 i row a h1 h2)⟩
theorem rowsR.append {rows2 : List (List Value)} {l2 : List α} (hr : rowsR r h F rows l) (hs : rowsR r h F rows2 l2) : rowsR r h F (rows ++ rows2) (l ++ l2) := by
  refine ⟨by simp [hr.1, hs.1], fun i row a h1 h2 => ?_⟩
  rw [List.getElem?_append] at h1 h2
  rw [hr.1] at h1
  by_cases hi : i < l.length
  · rw [if_pos hi] at h1 h2; exact hr.2 i row a h1 h2
  · rw [if_neg hi] at h1 h2; exact hs.2 _ row a h1 h2
theorem rowsR.take (hr : rowsR r h F rows l) (m : Nat) : rowsR r h F (rows.take m) (l.take m) := by
  refine ⟨by simp [hr.1], fun i row a h1 h2 => ?_⟩
  rw [List.getElem?_take] at h1 h2
  by_cases hi : i < m
  · rw [if_pos hi] at h1 h2; exact hr.2 i row a h1 h2
  · rw [if_neg hi] at h1; cases h1
theorem rowsR.drop (hr : rowsR r h F rows l) (m : Nat) : rowsR r h F (rows.drop m) (l.drop m) := by
  refine ⟨by simp [hr.1], fun i row a h1 h2 => ?_⟩
  rw [List.getElem?_drop] at h1 h2
  exact hr.2 _ row a h1 h2
theorem rowsR.set {i : Nat} {row : List Value} {a : α} (hr : rowsR r h F rows l) (hw : r.R h F row a) : rowsR r h F (rows.set i row) (l.set i a) := by
  refine ⟨by simp [hr.1], fun j row' a' h1 h2 => ?_⟩
  rw [List.getElem?_set] at h1 h2
  by_cases hij : i = j
  · rw [if_pos hij] at h1 h2
    split at h1
    · split at h2
      · cases h1; cases h2; exact hw
      · cases h2
    · cases h1
  · rw [if_neg hij] at h1 h2
    exact hr.2 j row' a' h1 h2
end

/-- A slice of one's own: its elements read nothing of its own block. -/
structure OwnR {α : Type} (r : Rp α) (h : Heap) (F : Nat → Prop) (T : TypeId) (v : Value) (l : List α) : Prop where
  ok : ∃ rows, Own h v T r.sz l.length rows.flatten ∧ rowsR r h F rows l
  apart : ∀ b ∈ blkOf v, ¬ F b

section
variable {α : Type} {r : Rp α} {h h' : Heap} {F G : Nat → Prop} {T : TypeId} {v : Value} {l : List α}
theorem OwnR.shape (o : OwnR r h F T v l) : ∃ p cap, v = .slice p l.length cap := by
  obtain ⟨rows, h1, _⟩ := o.ok; exact h1.sl.shape
theorem OwnR.val (o : OwnR r h F T v l) (hl : 0 < l.length) : ∃ b off cap, v = .slice (some ⟨b, off, none⟩) l.length cap := by
  obtain ⟨rows, h1, _⟩ := o.ok
  rcases h1.ok with ⟨_, h0⟩ | ⟨b, off, cap, L, rfl, _⟩
  · omega
  · exact ⟨b, off, cap, rfl⟩
theorem OwnR.slR (o : OwnR r h F T v l) (hl : l.length ≤ 9223372036854775807) : r.slice.R h (fun b => F b ∨ b ∈ blkOf v) [v] l := by
  obtain ⟨rows, h1, h2⟩ := o.ok
  exact ⟨v, rfl, fun b hb => .inr (rdOf_blk hb), hl, rows, h1.sl, h2.1, fun i row a hi ha => r.mono (fun b hb => .inl hb) (h2.2 i row a hi ha)⟩
theorem OwnR.stp {fp : List Nat} (x : Stp fp h h') (hF : ∀ b, F b → b ∉ fp) (hv : ∀ b ∈ blkOf v, b ∉ fp) (o : OwnR r h F T v l) : OwnR r h' F T v l := by
  obtain ⟨rows, h1, h2⟩ := o.ok
  exact ⟨⟨rows, h1.stp x hv, h2.stp x hF⟩, o.apart⟩
theorem OwnR.grow (x : Stp [] h h') (o : OwnR r h F T v l) : OwnR r h' F T v l := o.stp x (by simp) (by simp)
theorem OwnR.mono (hm : ∀ b, F b → G b) (ha : ∀ b ∈ blkOf v, ¬ G b) (o : OwnR r h F T v l) : OwnR r h G T v l := by
  obtain ⟨rows, h1, h2⟩ := o.ok
  exact ⟨⟨rows, h1, h2.mono hm⟩, ha⟩
theorem OwnR.lt (o : OwnR r h F T v l) : OwnR r h (fun b => F b ∧ b < h.size) T v l := by
  obtain ⟨rows, h1, h2⟩ := o.ok
  exact ⟨⟨rows, h1, h2.lt⟩, fun b hb hf => o.apart b hb hf.1⟩
theorem OwnR.blk (o : OwnR r h F T v l) : ∀ b ∈ blkOf v, b < h.size := by
  obtain ⟨rows, h1, _⟩ := o.ok; exact h1.lt
theorem OwnR.nil : OwnR r h F T (.slice none 0 0) [] := ⟨⟨[], Own.nil, rfl, fun i row a h1 => by simp at h1⟩, by simp [blkOf]⟩
theorem OwnR.empty {b : Nat} (hb : Blk h b T []) (hF : ¬ F b) : OwnR r h F T (.slice (some ⟨b, 0, none⟩) 0 0) [] := ⟨⟨[], own_empty hb, rfl, fun i row a h1 => by simp at h1⟩, by simp [blkOf]; exact hF⟩
/-- A field of an element is replaced. -/
theorem OwnR.put {b off len cap : Nat} (o : OwnR r h F T (.slice (some ⟨b, off, none⟩) len cap) l) {i : Nat} {a : α} (hi : l[i]? = some a) :
    ∃ L row, Blk h b T L ∧ off + i * r.sz + r.sz ≤ L.length ∧ r.R h F row a ∧ Cels h ⟨b, off + i * r.sz, none⟩ row ∧
      ∀ (G : Nat → Prop) k w h' a', (∀ c, F c → G c) → ¬ G b → k < r.sz → Upd h b T (L.set (off + i * r.sz + k) w) h' → r.R h' G (row.set k w) a' → OwnR r h' G T (.slice (some ⟨b, off, none⟩) len cap) (l.set i a') := by
  obtain ⟨rows, h1, h2⟩ := o.ok
  have hlen : len = l.length := by
    obtain ⟨p, c, e⟩ := h1.sl.shape
    simp only [Value.slice.injEq] at e
    exact e.2.1
  subst hlen
  have hilt := (List.getElem?_eq_some_iff.1 hi).1
  have hrl := h2.1
  obtain ⟨row, hrow⟩ : ∃ row, rows[i]? = some row := ⟨_, List.getElem?_eq_getElem (by omega)⟩
  have hR := h2.2 i row a hrow hi
  have hall := h2.all
  have hm : i * r.sz + r.sz ≤ l.length * r.sz := by
    have := Nat.mul_le_mul_right r.sz (show i + 1 ≤ l.length by omega)
    rw [Nat.add_mul] at this; omega
  have hb : ∃ L, Blk h b T L ∧ off + l.length * r.sz ≤ L.length := by
    rcases h1.ok with ⟨e, _⟩ | ⟨b', o', cap', L, he, hb, g1, g2, g3⟩
    · cases e
    · cases he
      have := Nat.mul_le_mul_right r.sz g2
      exact ⟨L, hb, by omega⟩
  obtain ⟨L, hL, hLl⟩ := hb
  refine ⟨L, row, hL, by omega, hR, ?_, fun G k w h' a' hFG hGb hk hu hRk => ?_⟩
  · rcases h1.sl.ok with ⟨p, cap', _, g2, _⟩ | ⟨b', o', cap', e, _, _, _, hc⟩
    · omega
    · simp only [Value.slice.injEq, Option.some.injEq, Addr.mk.injEq] at e
      obtain ⟨⟨rfl, rfl, _⟩, _, _⟩ := e
      refine ⟨fun j v hv => ?_⟩
      have := hc.cell (rows_flat rows i j _ v hall hrow hv)
      rw [addr_add]
      rw [show off + i * r.sz + j = off + (i * r.sz + j) by omega]
      exact this
  · obtain ⟨L', hL', hlt', hset⟩ := own_setG h1 (i := i * r.sz + k) (by omega)
    have eL : L' = L := by
      have e1 := hL'.get
      rw [hL.get] at e1
      simp only [Option.some.injEq, Obj.cells.injEq] at e1
      have := e1.1
      exact (List.toArray_inj this).symm
    subst eL
    have ho := hset h' w (by rw [← Nat.add_assoc]; exact hu)
    rw [← flatten_set rows i k row w hall hrow hk] at ho
    have hst : Stp [b] h h' := hu.stp
    have hr2 : rowsR r h' G rows l := (h2.stp hst (fun c hc hm => by simp at hm; subst hm; exact o.apart _ (by simp [blkOf]) hc)).mono hFG
    refine ⟨⟨_, by rw [List.length_set]; exact ho, hr2.set hRk⟩, by simp [blkOf]; exact hGb⟩
/-- The first elements, with no room behind them. -/
theorem OwnR.take {p : Option Addr} {len cap m : Nat} (o : OwnR r h F T (.slice p len cap) l) (hm : m ≤ l.length) (sz' : Nat) : OwnR r h F T (.slice (subA p sz' 0 m) m m) (l.take m) := by
  obtain ⟨rows, h1, h2⟩ := o.ok
  have hq : subA p sz' 0 m = p := by
    unfold subA
    split
    · rfl
    · cases p with
      | none => rfl
      | some a => obtain ⟨b, o, s⟩ := a; simp [Addr.add]
  rw [hq]
  have hlt : (l.take m).length = m := by simp; omega
  refine ⟨⟨rows.take m, ?_, h2.take m⟩, fun b hb => o.apart b (by cases p with | none => simp [blkOf] at hb | some a => simpa [blkOf] using hb)⟩
  rw [hlt]
  have hfl := h2.flen
  have hmul := Nat.mul_le_mul_right r.sz hm
  rcases h1.ok with ⟨e, h0⟩ | ⟨b', o', cap', L, he, hb, g1, g2, g3⟩
  · cases e
    have : m = 0 := by omega
    subst this
    exact Own.nil
  · cases he
    have hcm := Nat.mul_le_mul_right r.sz (Nat.le_trans hm g2)
    refine ⟨by rw [flatten_take rows m h2.all, List.length_take]; omega, .inr ⟨b', o', m, L, rfl, hb, by omega, Nat.le_refl _, ?_⟩⟩
    rw [flatten_take rows m h2.all, ← g3, List.take_take, Nat.min_eq_left hmul]
/-- A part of a slice that is read. -/
theorem sliceR_sub {p : Option Addr} {len cap i j mm c' : Nat} (hs : r.slice.R h F [.slice p len cap] l) (hij : i ≤ j) (hj : j ≤ l.length) (hmm : j ≤ mm) (hc : j - i ≤ c') : r.slice.R h F [.slice (subA p r.sz i mm) (j - i) c'] ((l.drop i).take (j - i)) := by
  obtain ⟨v, e, hb, hlm, rows, hsl, hr⟩ := hs
  simp only [List.cons.injEq, and_true] at e
  subst e
  have hlt : ((l.drop i).take (j - i)).length = j - i := by simp; omega
  by_cases h0 : j - i = 0
  · have : (l.drop i).take (j - i) = [] := List.eq_nil_of_length_eq_zero (by omega)
    rw [this, h0]
    exact sliceR_nil
  · have hrr : rowsR r h F ((rows.drop i).take (j - i)) ((l.drop i).take (j - i)) := (rowsR.drop hr i).take (j - i)
    rcases hsl.ok with ⟨p', cap', _, g2, _⟩ | ⟨b, o, cap', e, _, hle, hlt', hcs⟩
    · omega
    · simp only [Value.slice.injEq] at e
      obtain ⟨rfl, rfl, rfl⟩ := e
      have hq : subA (some ⟨b, o, none⟩) r.sz i mm = some ⟨b, o + i * r.sz, none⟩ := by
        unfold subA
        rw [if_neg (by omega)]
        simp [Addr.add]
      rw [hq]
      obtain ⟨k, hk⟩ : ∃ k, l.length = k + 1 := ⟨l.length - 1, by omega⟩
      have hFb : F b := hb b (by rw [hk]; simp [rdOf])
      refine ⟨_, rfl, fun c hc' => ?_, by omega, _, ?_, hrr⟩
      · have := rdOf_blk hc'
        simp [blkOf] at this
        subst this; exact hFb
      · rw [hlt]
        refine ⟨.inr ⟨b, o + i * r.sz, c', rfl, by omega, hc, hlt', ?_⟩⟩
        rw [flatten_take _ _ (rowsR.drop hr i).all, flatten_drop _ _ hr.all]
        refine ⟨fun q u hu => ?_⟩
        rw [List.getElem?_take] at hu
        split at hu
        · rw [List.getElem?_drop] at hu
          have := hcs.cell hu
          rw [addr_add]
          rw [show o + i * r.sz + q = o + (i * r.sz + q) by omega]
          exact this
        · cases hu
/-- One element in a block of its own. -/
theorem sliceR_one {b : Nat} {row : List Value} {a : α} (hb : Blk h b T row) (hr : r.R h F row a) (hF : F b) : r.slice.R h F [.slice (some ⟨b, 0, none⟩) 1 1] [a] := by
  refine ⟨_, rfl, by simp [rdOf]; exact hF, by simp, [row], ⟨.inr ⟨b, 0, 1, rfl, by simp, by simp, hb.lt, ?_⟩⟩, rfl, fun i row' a' h1 h2 => ?_⟩
  · simpa using hb.cels0
  · cases i with
    | zero => simp at h1 h2; subst h1; subst h2; exact hr
    | succ i => simp at h1
end

section
variable {α : Type} {r : Rp α} {P : Program} {tt : Nat → Option TI} {en : Nat → Bool} {fp : List Nat} {n : Nat} {c : Cls} {env : Env} {h : Heap} {N : Env → Heap → Prop} {d : Tmp} {ty : TypeId} {t u : TypeId} {x y z : Operand} {v : Value} {F1 F2 : Nat → Prop} {l m : List α}
theorem appR {te : TI} {e : Nat} {sv v' : Value} {h' : Heap} {rows rows2 : List (List Value)} (hsz : te.size = r.sz) (hr : rowsR r h F1 rows l) (hr2 : rowsR r h F2 rows2 m) (hap1 : ∀ b ∈ blkOf sv, ¬ F1 b) (hap : ∀ b ∈ blkOf sv, ¬ F2 b)
    (happ : App h h' sv v' e te.size (l.length + m.length) (rows.flatten ++ rows2.flatten)) : Stp (blkOf sv) h h' ∧ OwnR r h' (fun b => (F1 b ∨ F2 b) ∧ b < h.size) e v' (l ++ m) ∧ (blkOf v' = blkOf sv ∨ ∀ b ∈ blkOf v', h.size ≤ b) := by
  refine ⟨happ.stp, ⟨⟨rows ++ rows2, ?_, ?_⟩, fun b hb => ?_⟩, happ.blk⟩
  · rw [List.flatten_append, List.length_append, ← hsz]; exact happ.own
  · refine ((hr.lt.mono (fun b hb => ⟨.inl hb.1, hb.2⟩)).append (hr2.lt.mono (fun b hb => ⟨.inr hb.1, hb.2⟩))).stp happ.stp (fun b hb hm => ?_)
    exact hb.1.elim (hap1 b hm) (hap b hm)
  · rcases happ.blk with h8 | h8
    · rw [h8] at hb
      exact fun hf => hf.1.elim (hap1 b hb) (hap b hb)
    · have := h8 b hb
      exact fun hf => by omega
theorem St.appendR (G : PgOK P tt en) {ti te : TI} {e : Nat} {sv xv : Value} (ht : tt t = some ti) (hk : ti.kind = .slice e) (hte : tt e = some te) (hz : te.zero.cells.size = te.size) (hsz : te.size = r.sz)
    (hx : ev env x = some sv) (hy : ev env y = some xv) (ho : OwnR r h F1 e sv l) (hs : r.slice.R h F2 [xv] m) (hap : ∀ b ∈ blkOf sv, ¬ F2 b) (hb : (l.length + m.length) * te.bytes ≤ 140737488355328) (hb2 : l.length + m.length ≤ 9223372036854775807) (hc : isLoud c = true)
    (k : ∀ v' h', Stp (blkOf sv) h h' → OwnR r h' (fun b => (F1 b ∨ F2 b) ∧ b < h.size) e v' (l ++ m) → (blkOf v' = blkOf sv ∨ ∀ b ∈ blkOf v', h.size ≤ b) → N ((d, v') :: env) h') : St P n fp c (some d) (.call { callee := .builtin .append, args := #[x, y], argTypes := #[t, t] }) ty env h N := by
  obtain ⟨rows, h1, hr⟩ := ho.ok
  obtain ⟨w, e0, _, _, rows2, hsl, hr2⟩ := hs
  simp only [List.cons.injEq, and_true] at e0
  subst e0
  refine St.append G ht hk hte hz hx hy (by rw [hsz]; exact h1) hsl (by rw [hsz]; exact rowsR.flen hr2) (rowsR.one hr2) hb hb2 hc fun v' h' happ => ?_
  obtain ⟨g1, g2, g3⟩ := appR hsz hr hr2 ho.apart hap happ
  exact k v' h' g1 g2 g3
end
/-- Elements that bear a mark: what is marked reads only what lies in K. -/
def Rp.tag {α : Type} (r : Rp α) (K : Nat → Prop) : Rp (Bool × α) where
  sz := r.sz
  R := fun h F cs x => r.R h (fun b => F b ∧ (x.1 = true → K b)) cs x.2
  len := fun h => r.len h
  one := fun h => r.one h
  stp := fun x hn h => r.stp x (fun b hb => hn b hb.1) h
  mono := fun hm h => r.mono (fun b hb => ⟨hm b hb.1, hb.2⟩) h
  lt := fun h => r.mono (fun _ hb => ⟨⟨hb.1.1, hb.2⟩, hb.1.2⟩) (r.lt h)
def tagL {α : Type} (j : Nat) (l : List α) : List (Bool × α) := l.zipIdx.map fun x => (decide (x.2 < j), x.1)
theorem tagL_get {α : Type} {j : Nat} {l : List α} {i : Nat} : (tagL j l)[i]? = l[i]?.map fun e => (decide (i < j), e) := by
  simp only [tagL, List.getElem?_map, List.getElem?_zipIdx]
  cases l[i]? <;> simp
theorem tagL_len {α : Type} {j : Nat} {l : List α} : (tagL j l).length = l.length := by simp [tagL]
theorem tagL_set {α : Type} {j : Nat} {l : List α} {e : α} (he : l[j]? = some e) : (tagL j l).set j (true, e) = tagL (j + 1) l := by
  apply List.ext_getElem?
  intro i
  have hj := (List.getElem?_eq_some_iff.1 he).1
  rw [List.getElem?_set, tagL_get, tagL_get, tagL_len]
  by_cases hij : j = i
  · subst hij; rw [if_pos rfl, if_pos hj, he]; simp
  · rw [if_neg hij]
    congr 1
    funext x
    congr 1
    exact decide_eq_decide.2 (by omega)
section
variable {α : Type} {r : Rp α} {h : Heap} {F K : Nat → Prop} {T : TypeId} {v : Value} {l : List α}
theorem OwnR.tag (o : OwnR r h F T v l) : OwnR (r.tag K) h F T v (tagL 0 l) := by
  obtain ⟨rows, h1, h2⟩ := o.ok
  refine ⟨⟨rows, by rw [tagL_len]; exact h1, by rw [tagL_len]; exact h2.1, fun i row a hi ha => ?_⟩, o.apart⟩
  rw [tagL_get] at ha
  obtain ⟨e, he, rfl⟩ := Option.map_eq_some_iff.1 ha
  exact r.mono (fun b hb => ⟨hb, fun hx => by simp at hx⟩) (h2.2 i row e hi he)
theorem OwnR.untag {j : Nat} (o : OwnR (r.tag K) h F T v (tagL j l)) (hj : l.length ≤ j) : OwnR r h (fun b => F b ∧ K b) T v l := by
  obtain ⟨rows, h1, h2⟩ := o.ok
  refine ⟨⟨rows, by rw [tagL_len] at h1; exact h1, by have := h2.1; rw [tagL_len] at this; exact this, fun i row a hi ha => ?_⟩, fun b hb hf => o.apart b hb hf.1⟩
  have hil := (List.getElem?_eq_some_iff.1 ha).1
  have := h2.2 i row (decide (i < j), a) hi (by rw [tagL_get, ha]; rfl)
  exact r.mono (fun b hb => ⟨hb.1, hb.2 (decide_eq_true (by omega))⟩) this
end
theorem Cels.newc {h h' : Heap} {b T : Nat} {l vs : List Value} {a : Addr} (x : New h b T l h') (hc : Cels h a vs) : Cels h' a vs := ⟨fun j v hv => (x.stp (fp := [])).cel0 (hc.get j v hv)⟩
theorem Cels.stpc {h h' : Heap} {vs : List Value} {a : Addr} (x : Stp [] h h') (hc : Cels h a vs) : Cels h' a vs := ⟨fun j v hv => x.cel0 (hc.get j v hv)⟩
theorem Cels.updc {h h' : Heap} {b o c T : Nat} {l vs : List Value} (x : Upd h b T l h') (hne : c ≠ b) (hc : Cels h ⟨c, o, none⟩ vs) : Cels h' ⟨c, o, none⟩ vs := hc.stp x.stp (by simpa using hne)
/-- Off the region O nothing turned. -/
structure FP (O : Nat → Prop) (h h' : Heap) : Prop where
  size : h.size ≤ h'.size
  same : ∀ b, b < h.size → ¬ O b → h'[b]? = h[b]?
section
variable {O O' : Nat → Prop} {h h' h'' : Heap}
theorem FP.ofStp {fp : List Nat} (x : Stp fp h h') (hO : ∀ b ∈ fp, O b) : FP O h h' := ⟨x.size, fun b hb hn => x.same b hb (fun hm => hn (hO b hm))⟩
theorem FP.grow (x : Stp [] h h') : FP O h h' := .ofStp x (by simp)
theorem FP.refl : FP O h h := ⟨Nat.le_refl _, fun _ _ _ => rfl⟩
theorem FP.list (x : FP O h h') : ∃ fp, Stp fp h h' ∧ ∀ b ∈ fp, O b := by
  classical
  refine ⟨(List.range h.size).filter fun b => decide (O b), ⟨x.size, fun b hb hn => x.same b hb (fun ho => hn ?_)⟩, fun b hb => ?_⟩
  · simp [hb, ho]
  · simpa using (List.mem_filter.1 hb).2
theorem FP.trans (x : FP O h h') (y : FP O' h' h'') (hO : ∀ b, O' b → O b ∨ h.size ≤ b) : FP O h h'' :=
  ⟨Nat.le_trans x.size y.size, fun b hb hn => (y.same b (Nat.lt_of_lt_of_le hb x.size) (fun ho => (hO b ho).elim hn (fun hl => by omega))).trans (x.same b hb hn)⟩
theorem FP.mono (hO : ∀ b, O b → O' b ∨ h.size ≤ b) (x : FP O h h') : FP O' h h' := ⟨x.size, fun b hb hn => x.same b hb (fun ho => (hO b ho).elim hn (fun hl => by omega))⟩
theorem FP.stp (x : FP O h h') (hO : ∀ b, O b → h.size ≤ b) : Stp [] h h' := ⟨x.size, fun b hb _ => x.same b hb (fun ho => by have := hO b ho; omega)⟩
theorem Rp.fp {α : Type} (r : Rp α) {F : Nat → Prop} {cs : List Value} {a : α} (x : FP O h h') (hF : ∀ b, F b → ¬ O b) (hr : r.R h F cs a) : r.R h' F cs a := by
  obtain ⟨fp, s, hs⟩ := x.list
  exact r.stp s (fun b hb hm => hF b hb (hs b hm)) hr
theorem OwnR.fp {α : Type} {r : Rp α} {F : Nat → Prop} {T : TypeId} {v : Value} {l : List α} (x : FP O h h') (hF : ∀ b, F b → ¬ O b) (hv : ∀ b ∈ blkOf v, ¬ O b) (o : OwnR r h F T v l) : OwnR r h' F T v l := by
  obtain ⟨fp, s, hs⟩ := x.list
  exact o.stp s (fun b hb hm => hF b hb (hs b hm)) (fun b hb hm => hv b hb (hs b hm))
theorem Blk.fp {b : Nat} {T : TypeId} {l : List Value} (x : FP O h h') (hn : ¬ O b) (hb : Blk h b T l) : Blk h' b T l := by
  obtain ⟨fp, s, hs⟩ := x.list
  exact s.blk hb (fun hm => hn (hs b hm))
end
/-- A region and what is new. -/
def Ou (O : Nat → Prop) (h h' : Heap) : Nat → Prop := fun b => O b ∨ (h.size ≤ b ∧ b < h'.size)
end Go.CF
