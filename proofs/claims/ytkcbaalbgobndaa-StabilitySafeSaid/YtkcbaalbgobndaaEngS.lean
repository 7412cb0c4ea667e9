/- Rules of walks over abstract values: calls, loops, entry and end. Generic over the program. -/
import Derived.Test.YtkcbaalbgobndaaEngR
import Derived.Test.YtkcbaalbgobndaaEngM
namespace Go.CF
open Go

def U (Os : List (Nat → Prop)) (b : Nat) : Prop := ∃ O ∈ Os, O b
/-- A contract over abstract values. -/
structure CallA (P : Program) (f : FuncId) (as : List AV) (own : List Res) (K : AV → List Res → Prop) : Prop where
  run : ∀ h G Os vs, RepT h G vs as → HpOK h G (U Os) own h G Os → CallsH P f vs.toArray h fun v h' => ∃ r own' G' Os', K r own' ∧ r.R h' G' v ∧ HpOK h G (U Os) own' h' G' Os'
/-- .. of a function that only reads, and has one result. -/
def CallP (P : Program) (f : FuncId) (as : List AV) (r : AV) : Prop := CallA P f as [] fun q own => q = r ∧ own = []
theorem CallA.mono {P : Program} {f : FuncId} {as : List AV} {own : List Res} {K K' : AV → List Res → Prop} (h : CallA P f as own K) (hk : ∀ r o, K r o → K' r o) : CallA P f as own K' :=
  ⟨fun hh G Os vs h1 h2 => (h.run hh G Os vs h1 h2).mono fun _ _ ⟨r, o, G', Os', g1, g2⟩ => ⟨r, o, G', Os', hk _ _ g1, g2⟩⟩

inductive Takes : List Res → List Res → List Res → Prop where
  | nil {l : List Res} : Takes l [] l
  | cons {l l1 rest own : List Res} {R : Res} : Take l R l1 → Takes l1 own rest → Takes l (R :: own) rest
theorem Takes.own {h : Heap} {G : Nat → Prop} {rs own rest : List Res} (t : Takes rs own rest) : ∀ {os : List (Nat → Prop)}, OwnL h G rs os → ∃ o1 o2, OwnL h G own o1 ∧ OwnL h G rest o2 ∧ os.Perm (o1 ++ o2) := by
  induction t with
  | nil => exact fun ho => ⟨[], _, trivial, ho, List.Perm.refl _⟩
  | cons h1 _ ih =>
    intro os ho
    obtain ⟨O, os', g1, g2, g3⟩ := h1.own ho
    obtain ⟨o1, o2, k1, k2, k3⟩ := ih g2
    exact ⟨O :: o1, o2, ⟨g1, k1⟩, k2, g3.trans (List.Perm.cons O k3)⟩

section
variable {Γ : Cx} {k : List KI} {e : EA} {o : List Res} {N : NA} {c : Cls} {d : Tmp} {ty : TypeId} {x y z : Operand} {t u : TypeId} {kk : IntKind} {i : Int}

theorem HpOK.inner {h0 : Heap} {G0 O0 : Nat → Prop} {r1 r2 : List Res} {h : Heap} {G : Nat → Prop} {o1 o2 : List (Nat → Prop)} (c : HpOK h0 G0 O0 (r1 ++ r2) h G (o1 ++ o2)) (h1 : OwnL h G r1 o1) : HpOK h G (U o1) r1 h G o1 :=
  ⟨h1, fun b hb => ⟨(c.g b hb).1, .inl hb⟩, fun _ hb => hb, fun O hO b hb => by
    have := c.o O (by simp [hO]) b hb
    exact ⟨this.1, .inl ⟨O, hO, hb⟩, this.2.2⟩, (List.pairwise_append.1 c.d).1, FPx.refl h⟩
/-- Behind a call that turned only what was handed over. -/
theorem HpOK.call {h0 : Heap} {G0 O0 : Nat → Prop} {r1 r2 r1' : List Res} {h h' : Heap} {G G' : Nat → Prop} {o1 o2 o1' : List (Nat → Prop)} (c : HpOK h0 G0 O0 (r1 ++ r2) h G (o1 ++ o2)) (h2 : OwnL h G r2 o2) (c' : HpOK h G (U o1) r1' h' G' o1') :
    HpOK h0 G0 O0 (r1' ++ r2) h' G' (o1' ++ o2) ∧ FPx G h h' ∧ ∀ b, G b → G' b := by
  obtain ⟨d1, d2, d3⟩ := List.pairwise_append.1 c.d
  have hnu : ∀ X ∈ o2, ∀ b, X b → ¬ U o1 b := fun X hX b hb ⟨O, hO, ho⟩ => d3 O hO X hX b ho hb
  have hng : ∀ b, G b → ¬ U o1 b := fun b hb ⟨O, hO, ho⟩ => (c.o O (by simp [hO]) b ho).2.2 hb
  have hg : FPx G h h' := c'.fp.mono hng
  have hs := c.fp.size
  have hs' := c'.fp.size
  have hold : ∀ O ∈ o1 ++ o2, ∀ b, O b → b < h.size ∧ (O0 b ∨ h0.size ≤ b) ∧ ¬ G b := c.o
  have hu : ∀ b, U o1 b → b < h.size ∧ (O0 b ∨ h0.size ≤ b) := fun b ⟨O, hO, ho⟩ => by have := hold O (by simp [hO]) b ho; exact ⟨this.1, this.2.1⟩
  have hg2 : ∀ b, G' b → b < h'.size ∧ (G0 b ∨ O0 b ∨ h0.size ≤ b) := fun b hb => by
    have := c'.g b hb
    refine ⟨this.1, ?_⟩
    rcases this.2 with h9 | h9 | h9
    · exact (c.g b h9).2
    · exact .inr (hu b h9).2
    · exact .inr (.inr (by omega))
  have hx2 : ∀ X ∈ o2, ∀ b, X b → ¬ G' b := fun X hX b hb hgb => by
    have h8 := hold X (by simp [hX]) b hb
    rcases (c'.g b hgb).2 with h9 | h9 | h9
    · exact h8.2.2 h9
    · exact hnu X hX b hb h9
    · omega
  refine ⟨⟨c'.own.app (OwnL.mono c'.g0 (OwnL.stp (fun X hX => c'.fp.mono fun b hb => ?_) h2)), hg2, fun b hb => c'.g0 b (c.g0 b hb), fun O hO b hb => ?_, List.pairwise_append.2 ⟨c'.d, d2, fun A hA B hB b ha hb => ?_⟩, ⟨Nat.le_trans hs hs', fun b hb hl => ?_⟩⟩, hg, c'.g0⟩
  · rcases hb with hb | hb
    · exact hnu X hX b hb
    · exact hng b hb
  · rcases List.mem_append.1 hO with hO | hO
    · have h8 := c'.o O hO b hb
      refine ⟨h8.1, ?_, h8.2.2⟩
      rcases h8.2.1 with h9 | h9
      · exact (hu b h9).2
      · exact .inr (by omega)
    · have h8 := hold O (by simp [hO]) b hb
      exact ⟨by omega, h8.2.1, hx2 O hO b hb⟩
  · have h8 := c'.o A hA b ha
    rcases h8.2.1 with h9 | h9
    · exact hnu B hB b hb h9
    · have := (hold B (by simp [hB]) b hb).1; omega
  · rw [c'.fp.same b (fun hub => ?_) (Nat.lt_of_lt_of_le hl hs)]
    · exact c.fp.same b hb hl
    · rcases (hu b hub).2 with h9 | h9
      · exact hb h9
      · omega
/-- A call. -/
structure Cl (Γ : Cx) (c : Cls) (f : FuncId) (as : List AV) (o : List Res) (M : AV → List Res → Prop) : Prop where
  ok : ∀ {h0 : Heap} {G0 O0 : Nat → Prop} {h : Heap} {G : Nat → Prop} {Os : List (Nat → Prop)} {vs : List Value}, HpOK h0 G0 O0 o h G Os → RepT h G vs as →
    CallsH Γ.P f vs.toArray h fun v h' => (isLoud c = true ∨ Stp [] h h') ∧ ∃ r o' G' Os', M r o' ∧ r.R h' G' v ∧ HpOK h0 G0 O0 o' h' G' Os' ∧ FPx G h h' ∧ ∀ b, G b → G' b
/-- Arguments: what is one's own may be lent. -/
inductive Lend (o : List Res) : List AV → List AV → Prop where
  | nil : Lend o [] []
  | keep {a : AV} {l l' : List AV} : Lend o l l' → Lend o (a :: l) (a :: l')
  | nils {α : Type} {p : Option Addr} {c sz : Nat} {f : α → List AV} {l l' : List AV} : Lend o l l' → Lend o (.val (.slice p 0 c) :: l) (.sl sz [] f :: l')
  | mp {α β : Type} {sz : Nat} {xs : List α} {f : α → List AV} {ys : List β} {g : β → List AV} {l l' : List AV} : ys.map g = xs.map f → Lend o l l' → Lend o (.sl sz xs f :: l) (.sl sz ys g :: l')
  | lend {α : Type} {v : Value} {T sz : Nat} {xs : List α} {f : α → List AV} {rest : List Res} {l l' : List AV} : Take o (arrR v T sz xs f) rest → xs.length ≤ 9223372036854775807 → Lend o l l' → Lend o (.ow v :: l) (.sl sz xs f :: l')
  | lendm {α β : Type} {v : Value} {T sz : Nat} {xs : List α} {f : α → List AV} {ys : List β} {g : β → List AV} {rest : List Res} {l l' : List AV} : Take o (arrR v T sz xs f) rest → ys.map g = xs.map f → xs.length ≤ 9223372036854775807 → Lend o l l' → Lend o (.ow v :: l) (.sl sz ys g :: l')
  | cell {b : Nat} {k : Nat} {T : TypeId} {cs cs' : List AV} {rest : List Res} {l l' : List AV} : Take o (blkR b T cs) rest → Lend o cs cs' → Lend o l l' → Lend o (.val (.pointer (some ⟨b, k, none⟩)) :: l) (.ad cs' k :: l')
  | agg {cs cs' l l' : List AV} : Lend o cs cs' → Lend o l l' → Lend o (.agg cs :: l) (.agg cs' :: l')
  | fn {f : FuncId} {cs cs' l l' : List AV} : Lend o cs cs' → Lend o l l' → Lend o (.fn f cs :: l) (.fn f cs' :: l')
theorem sl_of_own {h : Heap} {G : Nat → Prop} {O : Nat → Prop} {α : Type} {v : Value} {T sz : Nat} {xs : List α} {f : α → List AV} (hr : (arrR v T sz xs f).R h O G) (hl : xs.length ≤ 9223372036854775807) : (AV.sl sz xs f).R h (fun b => G b ∨ O b) v := by
  obtain ⟨ho, rows, hw, hrr⟩ := hr
  refine ⟨hl, ?_⟩
  rcases hw.sl.ok with ⟨p, cap, e1, e2, _⟩ | ⟨b, of, cap, e1, e2, e3, e4, e5⟩
  · exact .inl ⟨List.eq_nil_of_length_eq_zero e2, p, cap, e1⟩
  · exact .inr ⟨b, of, cap, rows, e1, e2, e3, .inr ((ho b).2 (by simp [e1, blkOf])), e4, e5, hrr.mono fun _ => .inl⟩
theorem AV.sl_map {h : Heap} {G : Nat → Prop} {α β : Type} {v : Value} {sz : Nat} {xs : List α} {f : α → List AV} {ys : List β} {g : β → List AV} (he : ys.map g = xs.map f) (hr : (AV.sl sz xs f).R h G v) : (AV.sl sz ys g).R h G v := by
  have hl : ys.length = xs.length := by have := congrArg List.length he; simpa using this
  obtain ⟨hm, ⟨rfl, p, c, e⟩ | ⟨b, of, cap, rows, e, h1, h2, h3, h4, h5, h6⟩⟩ := hr
  · exact ⟨by rw [hl]; exact hm, .inl ⟨by simpa using hl, p, c, e⟩⟩
  · exact ⟨by rw [hl]; exact hm, .inr ⟨b, of, cap, rows, by rw [hl]; exact e, by omega, by omega, h3, h4, h5, h6.map he⟩⟩
theorem Lend.rep {h : Heap} {G : Nat → Prop} {Os : List (Nat → Prop)} (ho : OwnL h G o Os) {as as' : List AV} (l : Lend o as as') : ∀ {vs : List Value}, RepT h G vs as → RepT h (fun b => G b ∨ U Os b) vs as' := by
  induction l with
  | nil => intro vs hr; match vs, hr with | [], _ => trivial
  | keep _ ih =>
    intro vs hr
    match vs, hr with
    | v :: vs, ⟨h1, h2⟩ => exact ⟨AV.mono _ (fun _ => .inl) h1, ih h2⟩
  | nils _ ih =>
    intro vs hr
    match vs, hr with
    | v :: vs, ⟨h1, h2⟩ => exact ⟨⟨by simp, .inl ⟨rfl, _, _, h1⟩⟩, ih h2⟩
  | mp he _ ih =>
    intro vs hr
    match vs, hr with
    | v :: vs, ⟨h1, h2⟩ => exact ⟨AV.mono _ (fun _ => .inl) (AV.sl_map he h1), ih h2⟩
  | lend tk hl _ ih =>
    intro vs hr
    match vs, hr with
    | v :: vs, ⟨⟨h1, _⟩, h2⟩ =>
      subst h1
      obtain ⟨O, os', g1, g2, g3⟩ := tk.own ho
      exact ⟨AV.mono _ (fun b hb => hb.imp id fun hb => ⟨O, g3.mem_iff.2 (by simp), hb⟩) (sl_of_own g1 hl), ih h2⟩
  | lendm tk he hl _ ih =>
    intro vs hr
    match vs, hr with
    | v :: vs, ⟨⟨h1, _⟩, h2⟩ =>
      subst h1
      obtain ⟨O, os', g1, g2, g3⟩ := tk.own ho
      exact ⟨AV.mono _ (fun b hb => hb.imp id fun hb => ⟨O, g3.mem_iff.2 (by simp), hb⟩) (AV.sl_map he (sl_of_own g1 hl)), ih h2⟩
  | cell tk _ _ ih1 ih =>
    intro vs hr
    match vs, hr with
    | v :: vs, ⟨h1, h2⟩ =>
      obtain ⟨O, os', ⟨g0, ws, gb, gr⟩, g2, g3⟩ := tk.own ho
      have h1 : v = _ := h1
      subst h1
      exact ⟨⟨_, 0, ws, by rw [Nat.zero_add], .inr ⟨O, g3.mem_iff.2 (by simp), (g0 _).2 rfl⟩, gb.lt, gb.cels0, ih1 gr.t, gr.one⟩, ih h2⟩
  | agg _ _ ih1 ih =>
    intro vs hr
    match vs, hr with
    | v :: vs, ⟨⟨ws, h1, h3⟩, h2⟩ => exact ⟨⟨ws, h1, ih1 h3.t, h3.one⟩, ih h2⟩
  | fn _ _ ih1 ih =>
    intro vs hr
    match vs, hr with
    | v :: vs, ⟨⟨ws, h1, h3⟩, h2⟩ => exact ⟨⟨ws, h1, ih1 h3⟩, ih h2⟩
theorem Lend.rep0 {h : Heap} {G : Nat → Prop} {as as' : List AV} (l : Lend [] as as') {vs : List Value} (hr : RepT h G vs as) : RepT h G vs as' :=
  (Lend.rep (o := []) (Os := []) (G := G) trivial l hr).mono fun b hb => hb.elim id fun ⟨O, hO, _⟩ => by cases hO
theorem Cl.use {f : FuncId} {as as' : List AV} {own rest : List Res} {K : AV → List Res → Prop} {M : AV → List Res → Prop} (hc : CallA Γ.P f as' own K) (hv : Lend [] as as') (ht : Takes o own rest) (hl : (isLoud c || own.isEmpty) = true) (hm : ∀ r own', K r own' → M r (own' ++ rest)) : Cl Γ c f as o M := by
  refine ⟨fun {h0 G0 O0 h G Os vs} hp hr => ?_⟩
  obtain ⟨o1, o2, h1, h2, h3⟩ := ht.own hp.own
  have hp2 := hp.perm (h1.app h2) h3
  refine (hc.run h G o1 vs (hv.rep0 hr) (hp2.inner h1)).mono fun v h' ⟨r, own', G', Os', g1, g2, g3⟩ => ?_
  obtain ⟨k1, k2, k3⟩ := hp2.call h2 g3
  refine ⟨?_, r, _, G', _, hm r own' g1, g2, k1, k2, k3⟩
  simp only [Bool.or_eq_true] at hl
  rcases hl with hl | hl
  · exact .inl hl
  · right
    have he : own = [] := by simpa using hl
    subst he
    match o1, h1 with
    | [], _ => exact ⟨g3.fp.size, fun b hb _ => g3.fp.same b (fun ⟨O, hO, _⟩ => by cases hO) hb⟩
theorem Cl.p {f : FuncId} {as as' : List AV} {r : AV} {M : AV → List Res → Prop} (hc : CallP Γ.P f as' r) (hv : Lend [] as as') (hm : M r o) : Cl Γ c f as o M := by
  refine ⟨fun {h0 G0 O0 h G Os vs} hp hr => ?_⟩
  have hp2 : HpOK h0 G0 O0 ([] ++ o) h G ([] ++ Os) := hp
  refine (CallA.run hc h G [] vs (hv.rep0 hr) (hp2.inner trivial)).mono fun v h' ⟨r, own', G', Os', ⟨g1, g2⟩, g3, g4⟩ => ?_
  subst g1; subst g2
  have hst : Stp [] h h' := ⟨g4.fp.size, fun b hb _ => g4.fp.same b (fun ⟨O, hO, _⟩ => by cases hO) hb⟩
  match Os', g4.own with
  | [], _ =>
    obtain ⟨k1, k2, k3⟩ := hp2.call hp.own g4
    exact ⟨.inr hst, r, _, G', _, hm, g3, k1, k2, k3⟩
/-- What reads nothing. -/
class Flat (a : AV) : Prop where
  h : ∀ h h' G G' v, a.R h G v → a.R h' G' v
instance {v : Value} : Flat (.val v) := ⟨fun _ _ _ _ _ h => h⟩
theorem Cl.lend {f : FuncId} {as as' : List AV} {r : AV} {M : AV → List Res → Prop} [hf : Flat r] (hc : CallP Γ.P f as' r) (hl : Lend o as as') (hm : M r o) : Cl Γ c f as o M := by
  refine ⟨fun {h0 G0 O0 h G Os vs} hp hr => ?_⟩
  have hin : HpOK h (fun b => G b ∨ U Os b) (U []) [] h (fun b => G b ∨ U Os b) [] :=
    ⟨trivial, fun b hb => ⟨hb.elim (fun h9 => (hp.g b h9).1) (fun ⟨O, hO, h9⟩ => (hp.o O hO b h9).1), .inl hb⟩, fun _ h => h, fun O hO => (by cases hO), List.Pairwise.nil, FPx.refl h⟩
  refine (CallA.run hc h _ [] vs (hl.rep hp.own hr) hin).mono fun v h' ⟨r', own', G', Os', ⟨g1, g2⟩, g3, g4⟩ => ?_
  subst g1; subst g2
  have hst : Stp [] h h' := ⟨g4.fp.size, fun b hb _ => g4.fp.same b (fun ⟨O, hO, _⟩ => by cases hO) hb⟩
  have hx : ∀ S, FPx S h h' := fun S => ⟨hst.size, fun b _ hb => hst.same b hb (by simp)⟩
  have hs := hp.fp.size
  have hs' := hst.size
  refine ⟨.inr hst, r', o, G, Os, hm, hf.h _ _ _ _ _ g3, ⟨OwnL.stp (fun O _ => hx _) hp.own, fun b hb => ⟨by have := (hp.g b hb).1; omega, (hp.g b hb).2⟩, hp.g0, fun O hO b hb => ⟨by have := (hp.o O hO b hb).1; omega, (hp.o O hO b hb).2⟩, hp.d, ⟨by omega, fun b hb hl => ?_⟩⟩, hx G, fun _ h => h⟩
  rw [hst.same b (by omega) (by simp)]
  exact hp.fp.same b hb hl
theorem cl_sa {env : Env} {h : Heap} {G : Nat → Prop} {Os : List (Nat → Prop)} {f : FuncId} {as : List AV} {vs : List Value} (cn : Con Γ ⟨e, o⟩ env h G Os) (hr : RepT h G vs as) {dst : Option Tmp} (hc : Cl Γ c f as o fun r o' => N (match dst with | some d => (d, r) :: e | none => e) o') : CallsH Γ.P f vs.toArray h fun v h' => (isLoud c = true ∨ Stp [] h h') ∧ CN Γ N (putE env dst v) h' := by
  refine (hc.ok cn.hp hr).mono fun v h' ⟨h1, r, o', G', Os', g1, g2, g3, g4, g5⟩ => ⟨h1, ?_⟩
  have c2 : Con Γ ⟨e, o'⟩ env h' G' Os' := ⟨g3, fun t a ha => let ⟨w, k1, k2⟩ := cn.env t a ha; ⟨w, k1, a.mono g5 (a.stp g4 k2)⟩⟩
  cases dst with
  | none => exact CN.mk c2 g1
  | some d => exact CN.mk (c2.put d g2) g1
theorem acts_cases {c : Cls} (h : acts c = true) : c = .loud ∨ c = .ext := by cases c <;> simp [acts] at h ⊢
instance {f : FuncId} {args : Array Operand} {tys : Array TypeId} : Sp (SA Γ c (some d) (.call { callee := .value (.func f), args := args, argTypes := tys }) ty e o N) (Rf (acts c = true) (Lk (evAs e args.toList) fun as => Rf (Γ.en f = true) (Cl Γ c f as o fun r o' => N ((d, r) :: e) o'))) := ⟨fun ⟨hc, as, ha, he, h⟩ => ⟨fun env hh G Os cn => by
  obtain ⟨vs, g1, g2⟩ := cn.gets ha
  have hcl := cl_sa (dst := some d) cn g2 h
  rcases acts_cases hc with rfl | rfl
  · exact St.call Γ.ok g1 he rfl (hcl.mono fun v h' hk => hk.2)
  · exact St.callX Γ.ok g1 he rfl (hcl.mono fun v h' hk => ⟨hk.1.resolve_left (by simp [isLoud]), hk.2⟩)⟩⟩
instance {f : FuncId} {args : Array Operand} {tys : Array TypeId} : Sp (SA Γ c none (.call { callee := .value (.func f), args := args, argTypes := tys }) ty e o N) (Rf (isLoud c = true) (Lk (evAs e args.toList) fun as => Rf (Γ.en f = true) (Cl Γ c f as o fun _ o' => N e o'))) := ⟨fun ⟨hc, as, ha, he, h⟩ => ⟨fun env hh G Os cn => by
  obtain ⟨vs, g1, g2⟩ := cn.gets ha
  exact St.call0 Γ.ok g1 he hc ((cl_sa (dst := none) cn g2 h).mono fun v h' hk => hk.2)⟩⟩
/-- A call of a function value. -/
structure ClF (Γ : Cx) (c : Cls) (d : Tmp) (x : Operand) (args : Array Operand) (tys : Array TypeId) (ty : TypeId) (e : EA) (o : List Res) (N : NA) (a : AV) (as : List AV) : Prop where
  h : evA e x = some a → evAs e args.toList = some as → isLoud c = true → SA Γ c (some d) (.call { callee := .value x, args := args, argTypes := tys }) ty e o N
instance {r : Tmp} {args : Array Operand} {tys : Array TypeId} : Sp (SA Γ c (some d) (.call { callee := .value (.tmp r), args := args, argTypes := tys }) ty e o N) (Rf (isLoud c = true) (Lk (evA e (.tmp r)) fun a => Lk (evAs e args.toList) fun as => ClF Γ c d (.tmp r) args tys ty e o N a as)) := ⟨fun ⟨h1, _, ha, _, hb, h⟩ => h.h ha hb h1⟩
theorem RepT.toL {h : Heap} {G : Nat → Prop} {vs : List Value} {as : List AV} (r : RepT h G vs as) : vs.toArray.toList = vs := by have := r.len; simp
instance {f : FuncId} {cs as : List AV} {args : Array Operand} {tys : Array TypeId} : Sp (ClF Γ c d x args tys ty e o N (.fn f cs) as) (Rf (Γ.en f = true) (Cl Γ c f (as ++ cs) o fun r o' => N ((d, r) :: e) o')) := ⟨fun ⟨he, h⟩ => ⟨fun ha hb hc => ⟨fun env hh G Os cn => by
  obtain ⟨v, g1, ws, rfl, g2⟩ := cn.get ha
  obtain ⟨vs, g3, g4⟩ := cn.gets hb
  exact St.callT (first := []) Γ.ok g1 g3 he hc ((cl_sa (dst := some d) cn (g4.app g2) h).mono fun v h' hk => hk.2)⟩⟩⟩

/-! ### Loops, and paths that join -/
/-- What is known there follows from what is known here. -/
def subA' (e : EA) : EA → Prop
  | [] => True
  | (t, a) :: r => lookA e t = some a ∧ subA' e r
theorem lookA_sub : ∀ {e1 e2 : EA}, subA' e2 e1 → ∀ t v, lookA e1 t = some v → lookA e2 t = some v
  | [], _, _, _, _, h => by simp [lookA] at h
  | (k, u) :: r, e2, hs, t, v, h => by
    rw [lookA_cons] at h
    by_cases hk : k = t
    · subst hk; simp at h; subst h; exact hs.1
    · simp only [hk, if_false] at h; exact lookA_sub hs.2 t v h
structure Sub (e : EA) (o : List Res) (σ : AS) : Prop where
  e : subA' e σ.env
  o : Subl o σ.own
theorem Con.sub {σ : AS} {env : Env} {h : Heap} {G : Nat → Prop} {Os : List (Nat → Prop)} (s : Sub e o σ) (cn : Con Γ ⟨e, o⟩ env h G Os) : ∃ Os', Con Γ σ env h G Os' := by
  obtain ⟨Os', h1, _⟩ := HpOK.sub s.o cn.hp
  exact ⟨Os', h1, fun t a ha => cn.env t a (lookA_sub s.e t a ha)⟩
theorem Con.canon {σ : AS} {env : Env} {h : Heap} {G : Nat → Prop} {Os : List (Nat → Prop)} (cn : Con Γ σ env h G Os) : ∃ env', subE env' env ∧ Con Γ σ env' h G Os := by
  have key : ∀ l : EA, (∀ t a, (t, a) ∈ l → ∃ v, look env t = some v) → ∃ env', subE env' env ∧ ∀ t a, lookA l t = some a → ∃ v, look env' t = some v ∧ look env t = some v := by
    intro l
    induction l with
    | nil => exact fun _ => ⟨[], trivial, fun t a h => by simp [lookA] at h⟩
    | cons p r ih =>
      intro hl
      obtain ⟨t, a⟩ := p
      obtain ⟨env', h1, h2⟩ := ih (fun t a hm => hl t a (by simp [hm]))
      obtain ⟨v, hv⟩ := hl t a (by simp)
      refine ⟨(t, v) :: env', ⟨hv, h1⟩, fun q b hq => ?_⟩
      rw [lookA_cons] at hq
      rw [look_cons]
      by_cases hk : t = q
      · subst hk; rw [if_pos rfl]; exact ⟨v, rfl, hv⟩
      · rw [if_neg hk] at hq ⊢; exact h2 q b hq
  have hmem : ∀ (l : EA) t a, (t, a) ∈ l → ∃ b, lookA l t = some b := by
    intro l
    induction l with
    | nil => intro t a h; cases h
    | cons p r ih =>
      intro t a hm
      obtain ⟨q, b⟩ := p
      rw [lookA_cons]
      by_cases hk : q = t
      · rw [if_pos hk]; exact ⟨b, rfl⟩
      · rw [if_neg hk]
        rcases List.mem_cons.1 hm with h9 | h9
        · simp only [Prod.mk.injEq] at h9; exact absurd h9.1.symm hk
        · exact ih t a h9
  obtain ⟨env', h1, h2⟩ := key σ.env fun t a hm => by
    obtain ⟨b, hb⟩ := hmem _ t a hm
    obtain ⟨v, hv, _⟩ := cn.env t b hb
    exact ⟨v, hv⟩
  refine ⟨env', h1, cn.hp, fun t a ha => ?_⟩
  obtain ⟨v, g1, g2⟩ := h2 t a ha
  obtain ⟨w, g3, g4⟩ := cn.env t a ha
  rw [g2] at g3; cases g3
  exact ⟨v, g1, g4⟩
/-- Where a round of a loop ends. -/
def lpI {α : Type} (Γ : Cx) (st : α → AS) (J : α → Prop) : Env → Heap → Prop := fun env h => ∃ p : α × Env, subE p.2 env ∧ (∃ G Os, Con Γ (st p.1) p.2 h G Os) ∧ J p.1
theorem PA.lp {α : Type} {st : α → AS} {J : α → Prop} (x : α) (hs : Sub e o (st x)) (hj : J x) : PA Γ (.lp (lpI Γ st J) :: k) .normal e o :=
  ⟨fun env h G Os cn => PK.lp_normal (by
    obtain ⟨Os', c⟩ := cn.sub hs
    obtain ⟨env', h1, h2⟩ := c.canon
    exact ⟨(x, env'), h1, ⟨G, Os', h2⟩, hj⟩)⟩
theorem CA.loop {α : Type} {y : Code} (st : α → AS) (I : α → Prop) (μ : α → Nat) (x0 : α) (hs : Sub e o (st x0)) (hi : I x0)
    (round : ∀ x, I x → CA Γ (.lp (lpI Γ st fun x' => I x' ∧ μ x' < μ x) :: k) y (st x).env (st x).own) : CA Γ k (.loop y) e o := by
  refine ⟨fun env h G Os cn => ?_⟩
  obtain ⟨Os', c⟩ := cn.sub hs
  obtain ⟨env', h1, h2⟩ := c.canon
  refine CW.loop (fun p : α × Env => p.2) (fun p h => (∃ G Os, Con Γ (st p.1) p.2 h G Os) ∧ I p.1) (fun p => μ p.1) (x0, env') h1 ⟨⟨G, Os', h2⟩, hi⟩ ?_
  rintro ⟨x, env1⟩ h' ⟨⟨G1, Os1, c1⟩, hx⟩
  refine CW.mono (fun x e h hq => ?_) ((round x hx).h env1 h' G1 Os1 c1)
  have key : ∀ (I1 I2 : Env → Heap → Prop), (∀ e h, I1 e h → I2 e h) → ∀ x e h, PK Γ.P Γ.n (endR Γ) (.lp I1 :: k) x e h → PK Γ.P Γ.n (endR Γ) (.lp I2 :: k) x e h := by
    intro I1 I2 h12 x e h hp
    unfold PK at hp ⊢
    cases x <;> first | exact h12 _ _ hp | exact hp
  exact key _ _ (fun e h ⟨p, g1, g2, g3, g4⟩ => ⟨p, g1, ⟨g2, g3⟩, g4⟩) x e h hq
/-- Paths join behind a piece of code. -/
theorem CA.cut {α : Type} {y : Code} (st : α → AS) (I : α → Prop) (h1 : CA Γ (.lp (lpI Γ st I) :: k) y e o) (h2 : ∀ x, I x → PA Γ k .normal (st x).env (st x).own) : CA Γ k y e o := by
  refine ⟨fun env h G Os cn => ⟨fun a w ha hw => wp_mono ((h1.h env h G Os cn).run a w ha hw) fun x a' w' hl => ?_⟩⟩
  cases x <;> simp only [lift, PK] at hl ⊢
  case normal =>
    obtain ⟨hs, e1, hag, ⟨x, env'⟩, hsub, ⟨G', Os', c⟩, hx⟩ := hl
    exact ⟨hs, env', hag.sub hsub, (h2 x hx).h env' _ G' Os' c⟩
  all_goals exact hl
/-- A join of boolean or other values in one temporary. -/
theorem PA.sub {x : Exit} (σ : AS) (hs : Sub e o σ) (h : PA Γ k x σ.env σ.own) : PA Γ k x e o :=
  ⟨fun env hh G _ cn => let ⟨Os', c⟩ := cn.sub hs; h.h env hh G Os' c⟩
theorem CA.sub {y : Code} (σ : AS) (hs : Sub e o σ) (h : CA Γ k y σ.env σ.own) : CA Γ k y e o :=
  ⟨fun env hh G _ cn => let ⟨Os', c⟩ := cn.sub hs; h.h env hh G Os' c⟩
/-- An empty list becomes a slice of one's own. -/
theorem CA.nilOwn {α : Type} {y : Code} (t : Tmp) (T sz : Nat) (f : α → List AV) (ht : lookA e t = some (.val (.slice none 0 0))) (h : ∀ v, CA Γ k y ((t, .ow v) :: e) (arrR v T sz [] f :: o)) : CA Γ k y e o := by
  refine ⟨fun env hh G Os cn => ?_⟩
  have hp : HpOK Γ.h0 Γ.G0 Γ.O0 (arrR (.slice none 0 0) T sz [] f :: o) hh G ((fun _ => False) :: Os) := HpOK.nilA (o := o) cn.hp T sz f
  refine (h (.slice none 0 0)).h env hh G _ ⟨hp, fun q a hq => ?_⟩
  rw [lookA_cons] at hq
  by_cases hk : t = q
  · subst hk
    rw [if_pos rfl] at hq; cases hq
    obtain ⟨v, g1, g2⟩ := cn.env t _ ht
    exact ⟨v, g1, g2, none, 0, 0, rfl⟩
  · rw [if_neg hk] at hq; exact cn.env q a hq
theorem con_re {σ : AS} {env : Env} {h : Heap} {G : Nat → Prop} {Os : List (Nat → Prop)} (cn : Con Γ σ env h G Os) (t : Tmp) {a : AV} (ha : ∀ v, look env t = some v → a.R h G v) {b : AV} (hb : lookA σ.env t = some b) : Con Γ ⟨(t, a) :: σ.env, σ.own⟩ env h G Os := by
  refine ⟨cn.hp, fun q c hq => ?_⟩
  rw [lookA_cons] at hq
  by_cases hk : t = q
  · subst hk
    rw [if_pos rfl] at hq; cases hq
    obtain ⟨v, g1, _⟩ := cn.env t _ hb
    exact ⟨v, g1, ha v g1⟩
  · rw [if_neg hk] at hq; exact cn.env q c hq
/-- A slice of one's own becomes one that is only read. -/
theorem CA.freeze {α : Type} {y : Code} (t : Tmp) {v : Value} {T sz : Nat} {l : List α} {f : α → List AV} {rest : List Res} (ht : lookA e t = some (.ow v)) (tk : Take o (arrR v T sz l f) rest) (hl : l.length ≤ 9223372036854775807) (h : CA Γ k y ((t, .sl sz l f) :: e) rest) : CA Γ k y e o := by
  refine ⟨fun env hh G Os cn => ?_⟩
  obtain ⟨O, Os', cn2⟩ := cn.take tk
  have hr := cn2.hp.own.1
  have c3 := cn2.freeze
  refine h.h env hh _ Os' (con_re (σ := ⟨e, rest⟩) c3 t (fun w hw => ?_) ht)
  obtain ⟨w', g1, g2, _⟩ := cn.env t _ ht
  rw [hw] at g1; cases g1; subst g2
  exact sl_of_own hr hl
/-- Rows said by another function. -/
theorem CA.retype {α β : Type} {y : Code} {v : Value} {T sz : Nat} {l : List α} {f : α → List AV} {rest : List Res} (tk : Take o (arrR v T sz l f) rest) (m : List β) (g : β → List AV) (he : m.map g = l.map f) (h : CA Γ k y e (arrR v T sz m g :: rest)) : CA Γ k y e o := by
  refine ⟨fun env hh G Os cn => ?_⟩
  obtain ⟨O, Os', cn2⟩ := cn.take tk
  obtain ⟨⟨ho, rows, hw, hr⟩, hrest⟩ := cn2.hp.own
  have hlen : m.length = l.length := by have := congrArg List.length he; simpa using this
  exact h.h env hh G (O :: Os') ⟨cn2.hp.perm ⟨⟨ho, rows, by rw [hlen]; exact hw, hr.map he⟩, hrest⟩ (List.Perm.refl _), cn.env⟩

/-! ### Entry and end -/
def resA (e : EA) : List ResultVar → Option AV
  | [] => some (.tup [])
  | [.tmp a] => lookA e a
  | [.tmp a, .tmp b] => match lookA e a, lookA e b with
    | some x, some y => some (.tup [x, y])
    | _, _ => none
  | [.tmp a, .tmp b, .tmp c] => match lookA e a, lookA e b, lookA e c with
    | some x, some y, some z => some (.tup [x, y, z])
    | _, _, _ => none
  | _ => none
theorem HpOK.freeze {h0 : Heap} {G0 O0 : Nat → Prop} {R : Res} {rest : List Res} {h : Heap} {G O : Nat → Prop} {Os : List (Nat → Prop)} (c : HpOK h0 G0 O0 (R :: rest) h G (O :: Os)) : HpOK h0 G0 O0 rest h (fun b => G b ∨ O b) Os := by
  have hd := List.pairwise_cons.1 c.d
  refine ⟨c.own.2.mono fun _ => .inl, fun b hb => ?_, fun b hb => .inl (c.g0 b hb), fun X hX b hb => ?_, hd.2, c.fp⟩
  · rcases hb with hb | hb
    · exact c.g b hb
    · have := c.o O (by simp) b hb; exact ⟨this.1, .inr this.2.1⟩
  · have := c.o X (by simp [hX]) b hb
    exact ⟨this.1, this.2.1, fun hg => hg.elim this.2.2 (fun ho => hd.1 X hX b ho hb)⟩
/-- Results as the caller is to see them. -/
inductive FL : List Res → List AV → List AV → List Res → Prop where
  | nil {o own : List Res} : Subl o own → FL o [] [] own
  | same {o own : List Res} {a : AV} {l l' : List AV} : FL o l l' own → FL o (a :: l) (a :: l') own
  | nils {o own : List Res} {l l' : List AV} {α : Type} {T sz : Nat} {f : α → List AV} : FL (arrR (.slice none 0 0) T sz [] f :: o) l l' own → FL o (.val (.slice none 0 0) :: l) (.ow (.slice none 0 0) :: l') own
  | nilr {o own : List Res} {l l' : List AV} {α : Type} {sz : Nat} {f : α → List AV} : FL o l l' own → FL o (.val (.slice none 0 0) :: l) (.sl sz [] f :: l') own
  | fz {o rest own : List Res} {l l' : List AV} {α : Type} {v : Value} {T sz : Nat} {xs : List α} {f : α → List AV} : Take o (arrR v T sz xs f) rest → xs.length ≤ 9223372036854775807 → FL rest l l' own → FL o (.ow v :: l) (.sl sz xs f :: l') own
theorem FL.rep {h0 : Heap} {G0 O0 : Nat → Prop} {h : Heap} {o own : List Res} {l l' : List AV} (x : FL o l l' own) : ∀ {G : Nat → Prop} {Os : List (Nat → Prop)} {vs : List Value}, HpOK h0 G0 O0 o h G Os → RepT h G vs l → ∃ G' Os', HpOK h0 G0 O0 own h G' Os' ∧ RepT h G' vs l' ∧ ∀ b, G b → G' b := by
  induction x with
  | nil s =>
    intro G Os vs c hr
    obtain ⟨Os', h1, _⟩ := HpOK.sub s c
    exact ⟨G, Os', h1, hr, fun _ h => h⟩
  | same _ ih =>
    intro G Os vs c hr
    match vs, hr with
    | v :: vs, ⟨r1, r2⟩ =>
      obtain ⟨G', Os', h1, h2, h3⟩ := ih c r2
      exact ⟨G', Os', h1, ⟨AV.mono _ h3 r1, h2⟩, h3⟩
  | @nils o own l l' α T sz f _ ih =>
    intro G Os vs c hr
    match vs, hr with
    | v :: vs, ⟨r1, r2⟩ =>
      obtain ⟨G', Os', h1, h2, h3⟩ := ih (HpOK.nilA (o := o) c T sz f) r2
      exact ⟨G', Os', h1, ⟨⟨r1, none, 0, 0, rfl⟩, h2⟩, h3⟩
  | nilr _ ih =>
    intro G Os vs c hr
    match vs, hr with
    | v :: vs, ⟨r1, r2⟩ =>
      obtain ⟨G', Os', h1, h2, h3⟩ := ih c r2
      exact ⟨G', Os', h1, ⟨⟨by simp, .inl ⟨rfl, _, _, r1⟩⟩, h2⟩, h3⟩
  | fz tk hl _ ih =>
    intro G Os vs c hr
    match vs, hr with
    | v :: vs, ⟨⟨r1, _⟩, r2⟩ =>
      subst r1
      obtain ⟨O, os', c2⟩ := c.take tk
      have hrr := c2.own.1
      obtain ⟨G', Os', h1, h2, h3⟩ := ih c2.freeze (r2.mono fun _ => .inl)
      exact ⟨G', Os', h1, ⟨AV.mono _ h3 (sl_of_own hrr hl), h2⟩, fun b hb => h3 b (.inl hb)⟩
inductive FA (o : List Res) : AV → AV → List Res → Prop where
  | one {a a' : AV} {own : List Res} : FL o [a] [a'] own → FA o a a' own
  | tup {l l' : List AV} {own : List Res} : FL o l l' own → FA o (.tup l) (.tup l') own
structure Fin (Γ : Cx) (o : List Res) (a : AV) : Prop where
  ok : ∃ a' own, FA o a a' own ∧ Γ.K a' own
theorem resA_ok {P : Program} {n : Nat} {rs : Array ResultVar} {env : Env} {h : Heap} {G : Nat → Prop} (he : ∀ t a, lookA e t = some a → ∃ v, look env t = some v ∧ a.R h G v) {a : AV} (hr : resA e rs.toList = some a) : ∃ v, ResOK P n rs env h v ∧ a.R h G v := by
  obtain ⟨l⟩ := rs
  unfold resA at hr
  split at hr
  · rename_i h1
    cases hr
    have h1 : l = [] := h1
    subst h1
    exact ⟨_, ResOK.zero, [], rfl, trivial⟩
  · rename_i t1 h1
    have h1 : l = _ := h1
    subst h1
    obtain ⟨v, g1, g2⟩ := he _ _ hr
    exact ⟨v, ResOK.one g1, g2⟩
  · rename_i t1 t2 h1
    have h1 : l = _ := h1
    subst h1
    split at hr
    · rename_i x y e1 e2
      cases hr
      obtain ⟨v, g1, g2⟩ := he _ _ e1
      obtain ⟨w, g3, g4⟩ := he _ _ e2
      exact ⟨_, ResOK.two g1 g3, [v, w], rfl, g2, g4, trivial⟩
    · cases hr
  · rename_i t1 t2 t3 h1
    have h1 : l = _ := h1
    subst h1
    split at hr
    · rename_i x y z e1 e2 e3
      cases hr
      obtain ⟨v, g1, g2⟩ := he _ _ e1
      obtain ⟨w, g3, g4⟩ := he _ _ e2
      obtain ⟨u, g5, g6⟩ := he _ _ e3
      exact ⟨_, ResOK.three g1 g3 g5, [v, w, u], rfl, g2, g4, g6, trivial⟩
    · cases hr
  · cases hr
/-- What the function hands back. -/
structure ResX (Γ : Cx) (e : EA) (o : List Res) (rs : List ResultVar) (k : AV → Prop) : Prop where
  ok : ∃ a, k a ∧ (Γ.rs.toList = rs → ∀ env h G Os, Con Γ ⟨e, o⟩ env h G Os → ∃ v, ResOK Γ.P Γ.n Γ.rs env h v ∧ a.R h G v)
theorem ResX.tmps {rs : List ResultVar} {k : AV → Prop} (h : Lk (resA e rs) k) : ResX Γ e o rs k := by
  obtain ⟨a, ha, hk⟩ := h
  exact ⟨a, hk, fun hr env h G Os cn => resA_ok cn.env (by rw [hr]; exact ha)⟩
instance {k : AV → Prop} : Sp (ResX Γ e o [] k) (k (.tup [])) := ⟨fun h => ResX.tmps ⟨_, rfl, h⟩⟩
instance {a : Tmp} {k : AV → Prop} : Sp (ResX Γ e o [.tmp a] k) (Lk (lookA e a) k) := ⟨fun ⟨x, h1, h2⟩ => ResX.tmps ⟨x, h1, h2⟩⟩
instance {a b : Tmp} {k : AV → Prop} : Sp (ResX Γ e o [.tmp a, .tmp b] k) (Lk (lookA e a) fun x => Lk (lookA e b) fun y => k (.tup [x, y])) := ⟨fun ⟨x, h1, y, h2, h3⟩ => ResX.tmps ⟨.tup [x, y], by simp [resA, h1, h2], h3⟩⟩
instance {a b d : Tmp} {k : AV → Prop} : Sp (ResX Γ e o [.tmp a, .tmp b, .tmp d] k) (Lk (lookA e a) fun x => Lk (lookA e b) fun y => Lk (lookA e d) fun z => k (.tup [x, y, z])) := ⟨fun ⟨x, h1, y, h2, z, h3, h4⟩ => ResX.tmps ⟨.tup [x, y, z], by simp [resA, h1, h2, h3], h4⟩⟩
/-- A cell in which a struct lies. -/
structure CelX (Γ : Cx) (e : EA) (o : List Res) (a : AV) (ty : TypeId) (k : AV → Prop) : Prop where
  ok : ∃ cs, k (.agg cs) ∧ ∀ env h G Os v, Con Γ ⟨e, o⟩ env h G Os → a.R h G v → ∃ p vs ti fs, v = .pointer (some p) ∧ Γ.tt ty = some ti ∧ ti.kind = .struct fs ∧ ti.size = vs.length ∧ Cels h p vs ∧ RepL h G vs cs
instance {b : Nat} {ty : TypeId} {k : AV → Prop} : Sp (CelX Γ e o (.val (.pointer (some ⟨b, 0, none⟩))) ty k) (TkB o b fun _ cs _ => Lk (stI Γ.tt ty) fun _ => Rf ((Γ.tt ty).map (fun ti => ti.size) = some cs.length) (k (.agg cs))) := ⟨fun ⟨T, cs, rest, tk, q, hq, hz, hk⟩ => ⟨cs, hk, fun env h G Os v cn hv => by
  have hv : v = _ := hv
  subst hv
  obtain ⟨O, Os', cn2⟩ := cn.take tk
  obtain ⟨⟨_, vs, hb, hr⟩, _⟩ := cn2.hp.own
  obtain ⟨ti, t1, t2, _, _⟩ := stI_spec hq
  refine ⟨⟨b, 0, none⟩, vs, ti, _, rfl, t1, t2, ?_, hb.cels0, hr⟩
  rw [t1] at hz
  simp only [Option.map_some, Option.some.injEq] at hz
  rw [hz, hr.t.len]⟩⟩
theorem results_cell1 {fn : Func} {p : Tmp} {ty : TypeId} (h : fn.results = #[.cell p ty]) (tmps : Array Value) (P : Program) (w : World) :
    (results fn tmps).run P w = ((asAddr (tmps.getD p undef)).run P w).andThen fun a w₁ => (loadVar ty a).run P w₁ := by
  simp only [results, h]
  simp [Sem.run_bind, Result.andThen]
instance {a : Tmp} {ty : TypeId} {k : AV → Prop} : Sp (ResX Γ e o [.cell a ty] k) (Lk (lookA e a) fun x => CelX Γ e o x ty k) := ⟨fun ⟨x, h1, cs, h2, h3⟩ => ⟨.agg cs, h2, fun hr env h G Os cn => by
  obtain ⟨v, g1, g2⟩ := cn.env a x h1
  obtain ⟨p, vs, ti, fs, rfl, t1, t2, t3, g3, g4⟩ := h3 env h G Os v cn g2
  have hrs : Γ.rs = #[.cell a ty] := Array.ext' hr
  refine ⟨.agg vs.toArray, ?_, vs, rfl, g4⟩
  rw [hrs]
  intro ac w fn ha hw hfr
  rw [results_cell1 hfr]
  have k1 := (Γ.ok.ok _ _ t1).run_agg' w t2
  have k2 := (Γ.ok.ok _ _ t1).run_size w
  have k3 := run_cels (P := Γ.P) (w := w) (a := p) (l := vs) (by rw [hw]; exact g3)
  simp [ha.val _ _ g1, asAddr, loadVar, k1, k2, t3, k3]⟩⟩
instance {a b : Tmp} {ty : TypeId} {k : AV → Prop} : Sp (ResX Γ e o [.cell a ty, .tmp b] k) (Lk (lookA e a) fun x => Lk (lookA e b) fun y => CelX Γ e o x ty fun q => k (.tup [q, y])) := ⟨fun ⟨x, h1, y, hy, cs, h2, h3⟩ => ⟨.tup [.agg cs, y], h2, fun hr env h G Os cn => by
  obtain ⟨v, g1, g2⟩ := cn.env a x h1
  obtain ⟨v2, g5, g6⟩ := cn.env b y hy
  obtain ⟨p, vs, ti, fs, rfl, t1, t2, t3, g3, g4⟩ := h3 env h G Os v cn g2
  have hrs : Γ.rs = #[.cell a ty, .tmp b] := Array.ext' hr
  refine ⟨.tuple #[.agg vs.toArray, v2], ?_, [_, _], rfl, ⟨vs, rfl, g4⟩, g6, trivial⟩
  rw [hrs]
  exact ResOK.cell1 Γ.ok t1 t2 g1 g3 t3 g5⟩⟩
theorem PA.fin (h : ResX Γ e o Γ.rs.toList fun a => Fin Γ o a) : ∀ env hh G Os, Con Γ ⟨e, o⟩ env hh G Os → endR Γ env hh := by
  obtain ⟨a, ⟨a', own, hs, hk⟩, hx⟩ := h
  intro env hh G Os cn
  obtain ⟨v, g1, g2⟩ := hx rfl env hh G Os cn
  cases hs with
  | one hs =>
    obtain ⟨G', Os', h1, h2, _⟩ := hs.rep (vs := [v]) cn.hp ⟨g2, trivial⟩
    exact ⟨v, a', own, G', Os', g1, hk, h2.1, h1⟩
  | tup hs =>
    obtain ⟨vs, rfl, g3⟩ := g2
    obtain ⟨G', Os', h1, h2, _⟩ := hs.rep cn.hp g3
    exact ⟨_, _, own, G', Os', g1, hk, ⟨vs, rfl, h2⟩, h1⟩
instance : Sp (PA Γ [] .ret e o) (Nm Γ.rs.toList fun rs => ResX Γ e o rs fun a => Fin Γ o a) := ⟨fun h => ⟨fun env hh G Os cn => PK.nil_ret (PA.fin h.ok env hh G Os cn)⟩⟩
instance : Sp (PA Γ [] .normal e o) (Nm Γ.rs.toList fun rs => ResX Γ e o rs fun a => Fin Γ o a) := ⟨fun h => ⟨fun env hh G Os cn => PK.nil_normal (PA.fin h.ok env hh G Os cn)⟩⟩
/-- A block of one's own becomes one that is only read. -/
theorem OA.freezeB {k : List KI} {ops : Array Oper} {l : List Oper} (t : Tmp) {b m : Nat} {T : TypeId} {cs : List AV} {rest : List Res} (ht : lookA e t = some (.val (.pointer (some ⟨b, m, none⟩)))) (tk : Take o (blkR b T cs) rest) (h : OA Γ k ops l ((t, .ad cs m) :: e) rest) : OA Γ k ops l e o := by
  refine ⟨fun hd env hh G Os cn => ?_⟩
  obtain ⟨O, Os', cn2⟩ := cn.take tk
  obtain ⟨ho, vs, hb, hr⟩ := cn2.hp.own.1
  have c3 := cn2.freeze
  refine h.h hd env hh _ Os' (con_re (σ := ⟨e, rest⟩) c3 t (fun w hw => ?_) ht)
  obtain ⟨w', g1, g2⟩ := cn.env t _ ht
  have g2 : w' = _ := g2
  rw [hw] at g1; cases g1; subst g2
  exact ⟨b, 0, vs, by rw [Nat.zero_add], .inr ((ho b).2 rfl), hb.lt, hb.cels0, hr.mono fun _ => .inl⟩
theorem Fin.p {a r : AV} (hk : Γ.K = fun q own => q = r ∧ own = []) (h : a = r) : Fin Γ o a := ⟨a, [], .one (.same (.nil .nil)), by rw [hk]; exact ⟨h, rfl⟩⟩
def argA : Nat → List AV → EA
  | _, [] => []
  | i, a :: r => (i, a) :: argA (i + 1) r
theorem look_argA {h : Heap} {G : Nat → Prop} : ∀ (as : List AV) (vs : List Value) (i : Nat), RepT h G vs as → ∀ t a, lookA (argA i as) t = some a → ∃ v, look (argE i vs) t = some v ∧ a.R h G v
  | [], [], _, _, t, a, hl => by simp [argA, lookA] at hl
  | b :: as, v :: vs, i, ⟨h1, h2⟩, t, a, hl => by
    simp only [argA, argE, lookA_cons, look_cons] at hl ⊢
    by_cases hk : i = t
    · rw [if_pos hk] at hl ⊢; cases hl; exact ⟨v, rfl, h1⟩
    · rw [if_neg hk] at hl ⊢; exact look_argA as vs (i + 1) h2 t a hl
theorem CallA.of {P : Program} {tt : Nat → Option TI} {en : Nat → Bool} (ok : PgOK P tt en) (T : Nat → Ord × (Nat → Cls)) {f : FuncId} {fn : Func} {y : Code} {n : Nat} {rs : Array ResultVar} {as : List AV} {own : List Res} {K : AV → List Res → Prop} (hf : P.funcs[f]? = some fn) (hb : fn.body = some y) (hn : fn.ntmps = n) (hr : fn.results = rs) (hl : Nat.ble as.length n = true)
    (hc : ∀ h0 G0 O0, CA ⟨P, tt, en, ok, T, n, rs, K, h0, G0, O0⟩ [] y (argA 0 as) own) : CallA P f as own K := by
  refine ⟨fun h G Os vs h1 h2 => ?_⟩
  refine CallsH.of hf hb hn hr (by rw [h1.len]; exact hl) (CW.mono (fun x e h' hq => ?_) ((hc h G (U Os)).h (argE 0 vs) h G Os ⟨h2, look_argA as vs 0 h1⟩))
  have key : ∀ (R1 R2 : Env → Heap → Prop), (∀ e h, R1 e h → R2 e h) → ∀ x e h, PK P n R1 [] x e h → PK P n R2 [] x e h := by
    intro R1 R2 h12 x e h hp
    unfold PK at hp ⊢
    cases x <;> first | exact h12 _ _ hp | exact hp
  exact key _ _ (fun e h' ⟨v, r, own', G', Os', g1, g2, g3, g4⟩ => ⟨v, g1, r, own', G', Os', g2, g3, g4⟩) x e h' hq
end
end Go.CF
