/- Rules of walks over abstract values: append, parts of slices, calls, loops, entry and end. Generic over the program. -/
import Derived.Test.YtkcbaalbgobndaaEngQ
namespace Go.CF
open Go
section
variable {Γ : Cx} {k : List KI} {e : EA} {o : List Res} {N : NA} {c : Cls} {d : Tmp} {ty : TypeId} {x y z : Operand} {t u : TypeId} {kk : IntKind} {i : Int}

/-! ### Parts of slices -/
/-- The bounds of a part, of which either may be left out. -/
structure Bds (e : EA) (lo hi : Option Operand) (n : Nat) (M : Nat → Nat → Prop) : Prop where
  ok : ∃ l m, l ≤ m ∧ m ≤ n ∧ M l m ∧ (match lo with | none => l = 0 | some q => ∃ kk i, evA e q = some (.val (.int kk i)) ∧ i = (l : Int)) ∧ (match hi with | none => m = n | some q => ∃ kk i, evA e q = some (.val (.int kk i)) ∧ i = (m : Int))
/-- A number. -/
structure Nb (a : AV) (M : Int → Prop) : Prop where
  ok : ∃ kk i, a = .val (.int kk i) ∧ M i
instance {kk : IntKind} {i : Int} {M : Int → Prop} : Sp (Nb (.val (.int kk i)) M) (M i) := ⟨fun h => ⟨kk, i, rfl, h⟩⟩
instance {n : Nat} {M : Nat → Nat → Prop} : Sp (Bds e none none n M) (M 0 n) := ⟨fun h => ⟨0, n, Nat.zero_le _, Nat.le_refl _, h, rfl, rfl⟩⟩
instance {n : Nat} {M : Nat → Nat → Prop} {q : Operand} : Sp (Bds e (some q) none n M) (Lk (evA e q) fun a => Nb a fun i => Jx i n fun j => M j n) := ⟨fun ⟨_, ha, kk, i, hk, j, h1, h2, h3⟩ => ⟨j, n, h2, Nat.le_refl _, h3, ⟨kk, i, hk ▸ ha, h1⟩, rfl⟩⟩
instance {n : Nat} {M : Nat → Nat → Prop} {q : Operand} : Sp (Bds e none (some q) n M) (Lk (evA e q) fun a => Nb a fun i => Jx i n fun j => M 0 j) := ⟨fun ⟨_, ha, kk, i, hk, j, h1, h2, h3⟩ => ⟨0, j, Nat.zero_le _, h2, h3, rfl, ⟨kk, i, hk ▸ ha, h1⟩⟩⟩
instance {n : Nat} {M : Nat → Nat → Prop} {q r : Operand} : Sp (Bds e (some q) (some r) n M) (Lk (evA e q) fun a => Nb a fun i => Lk (evA e r) fun b => Nb b fun i' => Jx i' n fun m => Jx i m fun j => M j m) := ⟨fun ⟨_, ha, kk, i, hk, _, hb, kk', i', hk', m, h1, h2, j, h3, h4, h5⟩ => ⟨j, m, h4, h2, h5, ⟨kk, i, hk ▸ ha, h3⟩, ⟨kk', i', hk' ▸ hb, h1⟩⟩⟩
structure Slp (Γ : Cx) (c : Cls) (d : Tmp) (t : TypeId) (x : Operand) (lo hi : Option Operand) (ty : TypeId) (e : EA) (o : List Res) (N : NA) (a : AV) : Prop where
  h : evA e x = some a → SA Γ c (some d) (.slice t x lo hi none) ty e o N
instance {lo hi : Option Operand} : Sp (SA Γ c (some d) (.slice t x lo hi none) ty e o N) (Lk (evA e x) fun a => Slp Γ c d t x lo hi ty e o N a) := ⟨fun ⟨_, ha, h⟩ => h.h ha⟩
theorem slice_at {lo hi : Option Operand} {env : Env} {h : Heap} {G : Nat → Prop} {Os : List (Nat → Prop)} (cn : Con Γ ⟨e, o⟩ env h G Os) {p : Nat × TI} (hp : slE Γ.tt t = some p) {q : Option Addr} {len cap l m : Nat} (h1 : ev env x = some (.slice q len cap)) (hlm : l ≤ m) (hmn : m ≤ len) (hcap : len ≤ cap)
    (hlo : match lo with | none => l = 0 | some q => ∃ kk i, evA e q = some (.val (.int kk i)) ∧ i = (l : Int)) (hhi : match hi with | none => m = len | some q => ∃ kk i, evA e q = some (.val (.int kk i)) ∧ i = (m : Int)) {N' : Env → Heap → Prop} (hn : N' ((d, .slice (subA q p.2.size l cap) (m - l) (cap - l)) :: env) h) :
    lo ≠ none ∨ hi ≠ none → St Γ.P Γ.n [] c (some d) (.slice t x lo hi none) ty env h N' := by
  intro hne
  obtain ⟨ti, t1, t2, t3⟩ := slE_spec hp
  match lo, hi with
  | none, none => simp at hne
  | some a, none =>
    obtain ⟨kk, i, g1, g2⟩ := hlo
    obtain ⟨v, g3, g4⟩ := cn.get g1
    have g4 : v = .int kk i := g4
    subst g4
    simp only at hhi
    subst hhi
    exact St.sliceL Γ.ok t1 t2 t3 h1 g3 g2 hlm hn
  | none, some b =>
    obtain ⟨kk, i, g1, g2⟩ := hhi
    obtain ⟨v, g3, g4⟩ := cn.get g1
    have g4 : v = .int kk i := g4
    subst g4
    simp only at hlo
    subst hlo
    exact St.sliceH Γ.ok t1 t2 t3 h1 g3 g2 (by omega) hn
  | some a, some b =>
    obtain ⟨kk, i, g1, g2⟩ := hlo
    obtain ⟨v, g3, g4⟩ := cn.get g1
    have g4 : v = .int kk i := g4
    subst g4
    obtain ⟨kk', i', g5, g6⟩ := hhi
    obtain ⟨v, g7, g8⟩ := cn.get g5
    have g8 : v = .int kk' i' := g8
    subst g8
    exact St.sliceLH Γ.ok t1 t2 t3 h1 g3 g7 g2 g6 hlm (by omega) hn
instance {lo hi : Option Operand} {α : Type} {sz : Nat} {l : List α} {f : α → List AV} : Sp (Slp Γ c d t x lo hi ty e o N (.sl sz l f)) (Rf ((lo.isSome || hi.isSome) = true) (Lk (slE Γ.tt t) fun p => Rf (p.2.size = sz) (Bds e lo hi l.length fun a b => N ((d, .sl sz ((l.drop a).take (b - a)) f) :: e) o))) := ⟨fun ⟨hne, p, hp, hz, a, b, h1, h2, hn, h3, h4⟩ => ⟨fun ha => ⟨fun env hh G Os cn => by
  obtain ⟨v, g1, g2⟩ := cn.get ha
  have hlen : ((l.drop a).take (b - a)).length = b - a := by simp; omega
  have hnn : lo ≠ none ∨ hi ≠ none := by cases lo <;> cases hi <;> simp at hne ⊢
  obtain ⟨hm, ⟨rfl, q, cap, rfl⟩ | ⟨bk, of, cap, rows, rfl, k1, k2, k3, k4, k5, k6⟩⟩ := g2
  · have hb0 : b = 0 := by simpa using h2
    have ha0 : a = 0 := by omega
    subst hb0; subst ha0
    exact slice_at cn hp g1 (l := 0) (m := 0) (Nat.le_refl _) (Nat.le_refl _) (Nat.zero_le _) h3 h4 (CN.mk (cn.put d (a := .sl sz (([] : List α).drop 0 |>.take (0 - 0)) f) ⟨by simp, .inl ⟨by simp, _, _, rfl⟩⟩) hn) hnn
  · refine slice_at cn hp g1 h1 h2 k2 h3 h4 (CN.mk (cn.put d (a := .sl sz ((l.drop a).take (b - a)) f) ⟨by omega, ?_⟩) hn) hnn
    rcases Nat.eq_or_lt_of_le h1 with h9 | h9
    · refine .inl ⟨List.eq_nil_of_length_eq_zero (by omega), ?_⟩
      subst h9
      exact ⟨_, _, by rw [Nat.sub_self]⟩
    · refine .inr ⟨bk, of + a * sz, cap - a, (rows.drop a).take (b - a), ?_, by omega, by omega, k3, k4, ?_, (k6.drop a).take (b - a)⟩
      · rw [hlen]
        unfold subA
        rw [if_neg (by omega), hz]
        simp [Addr.add]
      · have hsz := k6.sz
        have e1 : (rows.drop a).flatten = rows.flatten.drop (a * sz) := by
          have e2 : rows.flatten = (rows.take a).flatten ++ (rows.drop a).flatten := by rw [← List.flatten_append, List.take_append_drop]
          have e3 : (rows.take a).flatten.length = a * sz := by rw [flat_len _ (fun r hr => hsz r (List.mem_of_mem_take hr)), List.length_take, k6.len]; congr 1 <;> omega
          rw [e2, ← e3, List.drop_left]
        have e4 : ((rows.drop a).take (b - a)).flatten = (rows.flatten.drop (a * sz)).take ((b - a) * sz) := by
          have e2 : (rows.drop a).flatten = ((rows.drop a).take (b - a)).flatten ++ ((rows.drop a).drop (b - a)).flatten := by rw [← List.flatten_append, List.take_append_drop]
          have e3 : ((rows.drop a).take (b - a)).flatten.length = (b - a) * sz := by rw [flat_len _ (fun r hr => hsz r (List.mem_of_mem_drop (List.mem_of_mem_take hr))), List.length_take, List.length_drop, k6.len]; congr 1 <;> omega
          rw [← e1, e2, ← e3, List.take_left]
        rw [e4]
        refine ⟨fun j v hv => ?_⟩
        rw [List.getElem?_take] at hv
        split at hv
        · rw [List.getElem?_drop] at hv
          have := k5.cell hv
          rw [addr_add, show of + a * sz + j = of + (a * sz + j) by omega]
          exact this
        · cases hv⟩⟩⟩
instance {lo hi : Option Operand} {v : Value} : Sp (Slp Γ c d t x lo hi ty e o N (.ow v)) (Rf ((lo.isSome || hi.isSome) = true) (Lk (slE Γ.tt t) fun p => TkA o v fun _ sz l _ _ => Rf (p.2.size = sz) (Bds e lo hi l.length fun a b => N ((d, .os v sz a (b - a)) :: e) o))) := ⟨fun ⟨hne, p, hp, α, T, sz, l, f, rest, tk, hz, a, b, h1, h2, hn, h3, h4⟩ => ⟨fun ha => ⟨fun env hh G Os cn => by
  obtain ⟨w, g1, rfl, q, len, cap, rfl⟩ := cn.get ha
  obtain ⟨O, Os', cn2⟩ := cn.take tk
  obtain ⟨⟨_, rows, hw, _⟩, _⟩ := cn2.hp.own
  have hnn : lo ≠ none ∨ hi ≠ none := by cases lo <;> cases hi <;> simp at hne ⊢
  have hlc : len = l.length ∧ l.length ≤ cap := by
    rcases hw.ok with ⟨e1, e2⟩ | ⟨b', of, cap', L, e1, _, _, e2, _⟩
    · cases e1; omega
    · cases e1; exact ⟨rfl, e2⟩
  obtain ⟨rfl, hlc⟩ := hlc
  exact slice_at cn hp g1 h1 h2 hlc h3 h4 (CN.mk (cn.put d (a := .os _ sz a (b - a)) ⟨q, _, cap, rfl, by omega, by rw [hz]⟩) hn) hnn⟩⟩⟩

/-! ### append -/
/-- The same rows, said by another function. -/
structure Mp {α β : Type} (m : List β) (g : β → List AV) (f : α → List AV) (M : List α → Prop) : Prop where
  ok : ∃ l, l.map f = m.map g ∧ M l
theorem Mp.same {α : Type} {m : List α} {f : α → List AV} {M : List α → Prop} (h : M m) : Mp m f f M := ⟨m, rfl, h⟩
inductive MpL {α β : Type} (g : β → List AV) (f : α → List AV) : List β → List α → Prop where
  | nil : MpL g f [] []
  | cons {b : β} {a : α} {m : List β} {l : List α} : f a = g b → MpL g f m l → MpL g f (b :: m) (a :: l)
theorem MpL.inv {α β : Type} {g : β → List AV} {f : α → List AV} {b : β} {cs : List AV} {a : α} {m : List β} {l : List α} (hl : LN (g b) cs) (hi : Inv f cs a) (h : MpL g f m l) : MpL g f (b :: m) (a :: l) := .cons (hi.eq.trans hl.eq.symm) h
theorem MpL.eq {α β : Type} {g : β → List AV} {f : α → List AV} : ∀ {m : List β} {l : List α}, MpL g f m l → l.map f = m.map g
  | _, _, .nil => rfl
  | _, _, .cons h1 h2 => by rw [List.map_cons, List.map_cons, h1, h2.eq]
theorem Mp.lit {α β : Type} {m : List β} {g : β → List AV} {f : α → List AV} {M : List α → Prop} {l : List α} (h : MpL g f m l) (hk : M l) : Mp m g f M := ⟨l, h.eq, hk⟩
theorem Rows.map {α β : Type} {h : Heap} {G : Nat → Prop} {sz : Nat} {rows : List (List Value)} {m : List β} {g : β → List AV} {l : List α} {f : α → List AV} (r : Rows h G sz rows m g) (he : l.map f = m.map g) : Rows h G sz rows l f := by
  have hl : l.length = m.length := by have := congrArg List.length he; simpa using this
  refine ⟨by rw [r.len, hl], fun i row a h1 h2 => ?_, r.sz⟩
  have hlt := (List.getElem?_eq_some_iff.1 h2).1
  obtain ⟨b, hb⟩ : ∃ b, m[i]? = some b := ⟨_, List.getElem?_eq_getElem (by omega)⟩
  have h3 := congrArg (fun q => q[i]?) he
  simp only [List.getElem?_map, h2, hb, Option.map_some, Option.some.injEq] at h3
  rw [h3]
  exact r.row i row b h1 hb
/-- What is to be appended. -/
structure Src (o : List Res) (a : AV) (sz : Nat) (M : ∀ {β : Type}, List β → (β → List AV) → Prop) : Prop where
  ok : ∃ (β : Type) (m : List β) (g : β → List AV), M m g ∧ ∀ {h0 : Heap} {G0 O0 : Nat → Prop} {h : Heap} {G : Nat → Prop} {Os : List (Nat → Prop)} {v : Value}, HpOK h0 G0 O0 o h G Os → a.R h G v → ∃ rows, Sl h v m.length rows.flatten ∧ Rows h G sz rows m g
instance {α : Type} {sz sz' : Nat} {l : List α} {f : α → List AV} {M : ∀ {β : Type}, List β → (β → List AV) → Prop} : Sp (Src o (.sl sz l f) sz' M) (Rf (sz = sz') (M l f)) := ⟨fun ⟨hz, h⟩ => ⟨α, l, f, h, fun _ hr => by
  subst hz
  obtain ⟨rows, h1, h2, _⟩ := AV.sl_stp hr
  exact ⟨rows, h1, h2⟩⟩⟩
instance {sz : Nat} {p : Option Addr} {cap : Nat} {M : ∀ {β : Type}, List β → (β → List AV) → Prop} : Sp (Src o (.val (.slice p 0 cap)) sz M) (M ([] : List Unit) (fun _ => [])) := ⟨fun h => ⟨Unit, [], _, h, by
  rintro _ _ _ _ _ _ v _ rfl
  exact ⟨[], ⟨.inl ⟨p, cap, rfl, rfl, rfl⟩⟩, Rows.nil⟩⟩⟩
instance {v : Value} {sz : Nat} {M : ∀ {β : Type}, List β → (β → List AV) → Prop} : Sp (Src o (.ow v) sz M) (TkA o v fun _ s l f _ => Rf (s = sz) (M l f)) := ⟨fun ⟨α, T, s, l, f, rest, tk, hs, hn⟩ => ⟨α, l, f, hn, by
  subst hs
  rintro h0 G0 O0 h G Os u c ⟨rfl, _⟩
  obtain ⟨O, Os', c2⟩ := c.take tk
  obtain ⟨⟨_, rows, hw, hrr⟩, _⟩ := c2.own
  exact ⟨rows, hw.sl, hrr⟩⟩⟩
instance {v : Value} {s j m sz : Nat} {M : ∀ {β : Type}, List β → (β → List AV) → Prop} : Sp (Src o (.os v s j m) sz M) (TkA o v fun _ s' l f _ => Rf (s = sz ∧ s' = sz) (M ((l.drop j).take m) f)) := ⟨fun ⟨α, T, s', l, f, rest, tk, ⟨hs, hs'⟩, hn⟩ => ⟨α, _, f, hn, by
  subst hs; subst hs'
  rintro h0 G0 O0 h G Os u c ⟨p, len, cap, rfl, hjm, rfl⟩
  obtain ⟨O, Os', c2⟩ := c.take tk
  obtain ⟨⟨_, rows, hw, hrr⟩, _⟩ := c2.own
  have hsz := hrr.sz
  have hlen : len = l.length := by
    rcases hw.ok with ⟨e1, e2⟩ | ⟨b', of, cap', L, e1, _, _, _, _⟩
    · cases e1; omega
    · cases e1; rfl
  subst hlen
  have hml : ((l.drop j).take m).length = m := by simp; omega
  refine ⟨(rows.drop j).take m, ?_, (hrr.drop j).take m⟩
  rw [hml]
  rcases Nat.eq_zero_or_pos m with rfl | hm
  · exact ⟨.inl ⟨_, _, rfl, rfl, by simp⟩⟩
  · rcases hw.sl.ok with ⟨p', cap', e1, e2, _⟩ | ⟨b, of, cap', e1, _, e2, e3, hc⟩
    · omega
    · cases e1
      refine ⟨.inr ⟨b, of + j * s', cap - j, ?_, hm, by omega, e3, ?_⟩⟩
      · unfold subA
        rw [if_neg (by omega)]
        simp [Addr.add]
      · have e1 : (rows.drop j).flatten = rows.flatten.drop (j * s') := by
          have e2 : rows.flatten = (rows.take j).flatten ++ (rows.drop j).flatten := by rw [← List.flatten_append, List.take_append_drop]
          have e3 : (rows.take j).flatten.length = j * s' := by rw [flat_len _ (fun r hr => hsz r (List.mem_of_mem_take hr)), List.length_take, hrr.len]; congr 1 <;> omega
          rw [e2, ← e3, List.drop_left]
        have e4 : ((rows.drop j).take m).flatten = (rows.flatten.drop (j * s')).take (m * s') := by
          have e2 : (rows.drop j).flatten = ((rows.drop j).take m).flatten ++ ((rows.drop j).drop m).flatten := by rw [← List.flatten_append, List.take_append_drop]
          have e3 : ((rows.drop j).take m).flatten.length = m * s' := by rw [flat_len _ (fun r hr => hsz r (List.mem_of_mem_drop (List.mem_of_mem_take hr))), List.length_take, List.length_drop, hrr.len]; congr 1 <;> omega
          rw [← e1, e2, ← e3, List.take_left]
        rw [e4]
        refine ⟨fun q v hv => ?_⟩
        rw [List.getElem?_take] at hv
        split at hv
        · rw [List.getElem?_drop] at hv
          have := hc.cell hv
          rw [addr_add, show of + j * s' + q = of + (j * s' + q) by omega]
          exact this
        · cases hv⟩⟩
/-- What is appended to; g is how the new elements lie. -/
structure Tgt {β : Type} (o : List Res) (a : AV) (p : Nat × TI) (g : β → List AV) (M : ∀ {α : Type}, List α → (α → List AV) → List Res → Prop) : Prop where
  ok : ∃ (α : Type) (l : List α) (f : α → List AV) (rest : List Res), M l f rest ∧ ∀ {h0 : Heap} {G0 O0 : Nat → Prop} {h : Heap} {G : Nat → Prop} {Os : List (Nat → Prop)} {w : Value}, HpOK h0 G0 O0 o h G Os → a.R h G w → ∃ O Os', HpOK h0 G0 O0 (arrR w p.1 p.2.size l f :: rest) h G (O :: Os')
theorem HpOK.nilA {h0 : Heap} {G0 O0 : Nat → Prop} {h : Heap} {G : Nat → Prop} {Os : List (Nat → Prop)} (c : HpOK h0 G0 O0 o h G Os) {α : Type} (T sz : Nat) (f : α → List AV) : HpOK h0 G0 O0 (arrR (.slice none 0 0) T sz [] f :: o) h G ((fun _ => False) :: Os) :=
  ⟨⟨⟨fun x => by simp [blkOf], [], Own.nil, Rows.nil⟩, c.own⟩, c.g, c.g0, fun O hO b hb => by
      rcases List.mem_cons.1 hO with rfl | hO
      · exact hb.elim
      · exact c.o O hO b hb, List.pairwise_cons.2 ⟨fun _ _ _ h => h.elim, c.d⟩, c.fp⟩
instance {β : Type} {p : Nat × TI} {g : β → List AV} {M : ∀ {α : Type}, List α → (α → List AV) → List Res → Prop} : Sp (Tgt o (.val (.slice none 0 0)) p g M) (M [] g o) := ⟨fun h => ⟨β, [], g, o, h, by
  rintro h0 G0 O0 h G Os w c rfl
  exact ⟨_, _, c.nilA p.1 p.2.size g⟩⟩⟩
/-- Is the list empty, as one sees? -/
structure Ce (p X Y : Prop) : Prop where
  ok : (p ∧ X) ∨ Y
theorem Ce.l {p X Y : Prop} (h : p) (x : X) : Ce p X Y := ⟨.inl ⟨h, x⟩⟩
theorem Ce.r {p X Y : Prop} (y : Y) : Ce p X Y := ⟨.inr y⟩
instance {β : Type} {v : Value} {p : Nat × TI} {g : β → List AV} {M : ∀ {α : Type}, List α → (α → List AV) → List Res → Prop} : Sp (Tgt o (.ow v) p g M) (TkA o v fun T s l f rest => Rf (T = p.1 ∧ s = p.2.size) (Ce (l = []) (M ([] : List β) g rest) (M l f rest))) := ⟨fun ⟨α, T, s, l, f, rest, tk, ⟨h1, h2⟩, h⟩ => by
  subst h1; subst h2
  rcases h.ok with ⟨h0, hm⟩ | hm
  · subst h0
    refine ⟨β, [], g, rest, hm, ?_⟩
    rintro h0 G0 O0 h G Os w c ⟨rfl, _⟩
    obtain ⟨O, Os', c2⟩ := c.take tk
    obtain ⟨⟨ho, rows, hw, hrr⟩, hrest⟩ := c2.own
    have hrows : rows = [] := List.eq_nil_of_length_eq_zero hrr.len
    subst hrows
    exact ⟨O, Os', ⟨⟨⟨ho, [], hw, Rows.nil⟩, hrest⟩, c2.g, c2.g0, c2.o, c2.d, c2.fp⟩⟩
  · refine ⟨α, l, f, rest, hm, ?_⟩
    rintro h0 G0 O0 h G Os w c ⟨rfl, _⟩
    exact c.take tk⟩
instance {β : Type} {v : Value} {m s : Nat} {p : Nat × TI} {g : β → List AV} {M : ∀ {α : Type}, List α → (α → List AV) → List Res → Prop} : Sp (Tgt o (.os v s 0 m) p g M) (TkA o v fun T s' l f rest => Rf (T = p.1 ∧ s' = p.2.size) (M (l.take m) f rest)) := ⟨fun ⟨α, T, s', l, f, rest, tk, ⟨h1, h2⟩, h⟩ => ⟨α, l.take m, f, rest, h, by
  subst h1; subst h2
  rintro h0 G0 O0 h G Os w c ⟨q, len, cap, rfl, hm, rfl⟩
  obtain ⟨O, Os', c2⟩ := c.take tk
  obtain ⟨⟨ho, rows, hw, hrr⟩, hrest⟩ := c2.own
  have eq : subA q s 0 cap = q := by
    unfold subA
    split
    · rfl
    · cases q with
      | none => rfl
      | some a => simp [Addr.add]
  rw [eq, Nat.sub_zero]
  rcases hw.ok with ⟨e1, e2⟩ | ⟨b, of, cap', L, e1, hbk, g1, g2, g3⟩
  · cases e1
    have hm0 : m = 0 := by omega
    subst hm0
    refine ⟨O, Os', ⟨⟨⟨fun x => (ho x).trans (by simp [blkOf]), [], Own.nil, Rows.nil⟩, hrest⟩, c2.g, c2.g0, c2.o, c2.d, c2.fp⟩⟩
  · cases e1
    have hml : (l.take m).length = m := by rw [List.length_take]; omega
    have hsz := hrr.sz
    have e3 : (rows.take m).flatten.length = m * p.2.size := by rw [flat_len _ (fun r hr => hsz r (List.mem_of_mem_take hr)), List.length_take, hrr.len]; congr 1 <;> omega
    refine ⟨O, Os', ⟨⟨⟨fun x => (ho x).trans (by simp [blkOf]), rows.take m, ⟨by rw [hml]; exact e3, .inr ⟨b, of, cap, L, by rw [hml], hbk, g1, by rw [hml]; omega, ?_⟩⟩, hrr.take m⟩, hrest⟩, c2.g, c2.g0, c2.o, c2.d, c2.fp⟩⟩
    have e2 : rows.flatten = (rows.take m).flatten ++ (rows.drop m).flatten := by rw [← List.flatten_append, List.take_append_drop]
    have hmul : m * p.2.size ≤ l.length * p.2.size := Nat.mul_le_mul_right _ (by omega)
    rw [hml, ← Nat.min_eq_left hmul, ← List.take_take, g3, e2, ← e3, List.take_left]⟩⟩
instance : Sp (SA Γ c (some d) (.call { callee := .builtin .append, args := #[x, y], argTypes := #[t, t] }) ty e o N)
    (Rf (isLoud c = true) (Lk (evA e x) fun a => Lk (evA e y) fun b => Lk (slE Γ.tt t) fun p => Rf (p.2.zero.cells.size = p.2.size ∧ Nat.ble p.2.bytes 1000 = true) (Src o b p.2.size fun m g => Tgt o a p g fun l f rest => Mp m g f fun m' => Om (l.length + m'.length ≤ 100000000000) (All fun v : Value => N ((d, .ow v) :: e) (arrR v p.1 p.2.size (l ++ m') f :: rest))))) := ⟨fun ⟨hc, a, ha, b, hb, p, hp, ⟨hz, hB⟩, β, m, g, ⟨α, l, f, rest, ⟨m', he, hl, hn⟩, htg⟩, hsrc⟩ => ⟨fun env hh G Os cn => by
  obtain ⟨v, g1, g2⟩ := cn.get ha
  obtain ⟨w, g3, g4⟩ := cn.get hb
  obtain ⟨ti, t1, t2, t3⟩ := slE_spec hp
  obtain ⟨rows2, k1, k2⟩ := hsrc cn.hp g4
  obtain ⟨O, Os', c2⟩ := htg cn.hp g2
  have cn2 : Con Γ ⟨e, arrR v p.1 p.2.size l f :: rest⟩ env hh G (O :: Os') := ⟨c2, cn.env⟩
  obtain ⟨⟨ho, rows, hw, hrr⟩, _⟩ := cn2.hp.own
  have k3 := k2.map he
  have hmm : m'.length = m.length := by rw [← k3.len, k2.len]
  have hB2 := Nat.le_of_ble_eq_true hB
  refine St.append Γ.ok t1 t2 t3 hz g1 g3 hw (m := m.length) (news := rows2.flatten) k1 (by rw [k2.flen]) k2.one (Nat.le_trans (Nat.mul_le_mul (by omega : l.length + m.length ≤ 100000000000) hB2) (by decide)) (by omega) hc fun v' h' happ => ?_
  have hst := happ.stp
  have hx : FPx (fun y => ¬ O y) hh h' := ⟨hst.size, fun y hy hl => hst.same y hl (fun hm => hy ((ho y).2 hm))⟩
  have hg : FPx G hh h' := hx.mono fun y hy hoy => (cn2.hp.o O (by simp) y hoy).2.2 hy
  have hO : ∀ b, b ∈ blkOf v' → b < h'.size ∧ (O b ∨ hh.size ≤ b) := fun b hb => ⟨happ.own.lt b hb, by
    rcases happ.blk with h9 | h9
    · rw [h9] at hb; exact .inl ((ho b).2 hb)
    · exact .inr (h9 b hb)⟩
  have hrows : Rows h' G p.2.size (rows ++ rows2) (l ++ m') f := (hrr.app k3).stp hg
  obtain ⟨q, cap, hsh⟩ := happ.own.sl.shape
  refine CN.mk ((cn2.upd (R' := arrR v' p.1 p.2.size (l ++ m') f) (O' := fun b => b ∈ blkOf v') hx hO ⟨fun _ => Iff.rfl, rows ++ rows2, ?_, hrows⟩).put d (a := .ow v') ⟨rfl, q, _, cap, hsh⟩) (hn.ok v')
  rw [List.length_append, hmm, List.flatten_append]
  exact happ.own⟩⟩
end
end Go.CF
