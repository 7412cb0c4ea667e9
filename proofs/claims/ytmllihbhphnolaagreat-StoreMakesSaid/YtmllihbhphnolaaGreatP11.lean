/- Part 11 of the ground of this proof: what its texts say of the model, the program and the plain data; conditions: those that are named. -/
import Derived.Test.YtmllihbhphnolaaGreatP10
namespace Go.Proofs.YtmllihbhphnolaaGreat
open Go Go.CF
set_option maxRecDepth 20000
/-- Events of a list, each behind its past. -/
structure ExtO (l X : List EvS) : Prop where
  sub : ∀ e ∈ X, e ∈ l
  nxt : ∀ (i : Nat) e, X[i]? = some e → e ∉ X.take i ∧ ∀ d ∈ l, HasC e.past d.rep d.num → d ∈ X.take i
theorem ExtO.nil (l : List EvS) : ExtO l [] := ⟨fun e h => (by cases h), fun i e h => by simp at h⟩
theorem ExtO.snoc {l X : List EvS} {e : EvS} (h : ExtO l X) (he : e ∈ l) (hn : e ∉ X) (hp : ∀ d ∈ l, HasC e.past d.rep d.num → d ∈ X) : ExtO l (X ++ [e]) := by
  refine ⟨fun a ha => (List.mem_append.1 ha).elim (h.sub a) fun ha => by rw [List.mem_singleton.1 ha]; exact he, fun i a ha => ?_⟩
  have hi := (List.getElem?_eq_some_iff.1 ha).1
  rw [List.length_append, List.length_singleton] at hi
  by_cases hx : i < X.length
  · rw [List.getElem?_append_left hx] at ha
    rw [List.take_append_of_le_length (by omega)]
    exact h.nxt i a ha
  · have : i = X.length := by omega
    subst this
    rw [List.getElem?_append_right (Nat.le_refl _), Nat.sub_self] at ha
    cases ha
    rw [List.take_left]
    exact ⟨hn, hp⟩
theorem ExtO.cau {l X : List EvS} (h : ExtO l X) (i : Nat) : Cau l (X.take i) := by
  refine ⟨fun a ha => h.sub a (List.mem_of_mem_take ha), fun a ha d hd hh => ?_⟩
  obtain ⟨j, hj⟩ := List.getElem?_of_mem ha
  rw [List.getElem?_take] at hj
  split at hj
  · rename_i hji
    have := (h.nxt j a hj).2 d hd hh
    rw [show X.take j = (X.take i).take j by rw [List.take_take, Nat.min_eq_left (by omega)]] at this
    exact List.mem_of_mem_take this
  · cases hj
theorem ExtO.all {l X : List EvS} (h : ExtO l X) : Cau l X := by
  have := h.cau X.length
  rwa [List.take_length] at this
theorem sto0 (m : ModS) (l : List EvS) (ld : List Int) : StoA m l ld [] ⟨List.replicate (n0 l) 0, 0, ld, List.replicate (mrgF m).length mg0, []⟩ := ⟨rfl, rfl, rfl, KnL.nil m, rfl⟩
theorem wrap_add {x p q : Int} : IntKind.i64.wrap (IntKind.i64.wrap (x + p) + q) = IntKind.i64.wrap (IntKind.i64.wrap (x + q) + p) := by
  simp only [IntKind.wrap_i64]; omega
/-! ### Places -/
noncomputable def plL (l : List EvS) : List Int := (l.filter fun e => decide (0 < e.place)).map (·.place)
theorem withP_si {l s : List Int} {n : Int} (h : SI l s) : SI (l ++ [n]) (withP s n) := by
  unfold withP
  split
  · rename_i hn; exact si_keep h hn
  · rename_i hn
    refine ⟨List.pairwise_append.2 ⟨h.1.filter _, List.pairwise_cons.2 ⟨fun y hy => by simpa using (List.mem_filter.1 hy).2, h.1.filter _⟩, fun a ha b hb => ?_⟩, fun y => ?_⟩
    · have ha : a < n := by simpa using (List.mem_filter.1 ha).2
      rcases List.mem_cons.1 hb with rfl | hb
      · exact ha
      · have hb : n < b := by simpa using (List.mem_filter.1 hb).2
        omega
    · constructor
      · intro h9
        rcases List.mem_append.1 h9 with h9 | h9
        · exact List.mem_append.2 (.inl ((h.2 y).1 (List.mem_filter.1 h9).1))
        · rcases List.mem_cons.1 h9 with rfl | h9
          · simp
          · exact List.mem_append.2 (.inl ((h.2 y).1 (List.mem_filter.1 h9).1))
      · intro h9
        rcases List.mem_append.1 h9 with h9 | h9
        · have hy := (h.2 y).2 h9
          have hne : y ≠ n := fun e => hn (e ▸ hy)
          by_cases hlt : y < n
          · exact List.mem_append.2 (.inl (List.mem_filter.2 ⟨hy, by simpa using hlt⟩))
          · exact List.mem_append.2 (.inr (List.mem_cons.2 (.inr (List.mem_filter.2 ⟨hy, by simp only [decide_eq_true_eq]; omega⟩))))
        · rw [List.mem_singleton.1 h9]; simp
theorem plE_si {l : List EvS} : ∀ {P : List Int} {s : List Int}, SI P s → SI (P ++ plL l) (l.foldl plE s) := by
  induction l with
  | nil => intro P s h; simpa [plL] using h
  | cons e l ih =>
    intro P s h
    rw [List.foldl_cons]
    by_cases he : 0 < e.place
    · have h1 := ih (withP_si (n := e.place) h)
      rw [show plE s e = withP s e.place from if_pos he]
      rw [show P ++ plL (e :: l) = P ++ [e.place] ++ plL l by simp [plL, he]]
      exact h1
    · rw [show plE s e = s from if_neg he]
      rw [show P ++ plL (e :: l) = P ++ plL l by simp [plL, he]]
      exact ih h
theorem places_srt (l : List EvS) : l.foldl plE [] = srtD (plL l) := by
  have h : SI ([] ++ plL l) (l.foldl plE []) := plE_si ⟨List.Pairwise.nil, by simp⟩
  rw [List.nil_append] at h
  exact h.uniq (srtD_si _)
end Go.Proofs.YtmllihbhphnolaaGreat
namespace Go.Proofs.YtmllihbhphnolaaGreat
open Go Go.CF
set_option maxRecDepth 20000
/-! ### What is made -/
theorem time_le {X : List EvS} : ∀ (t : Int), t ≤ X.foldl (fun t e => max t e.time) t ∧ ∀ e ∈ X, e.time ≤ X.foldl (fun t e => max t e.time) t := by
  induction X with
  | nil => exact fun t => ⟨Int.le_refl _, fun e h => by cases h⟩
  | cons a X ih =>
    intro t
    rw [List.foldl_cons]
    obtain ⟨h1, h2⟩ := ih (max t a.time)
    refine ⟨by omega, fun e he => ?_⟩
    rcases List.mem_cons.1 he with rfl | he
    · omega
    · exact h2 e he
/-- An event that is made behind events: it is new, and greater than all. -/
structure Made (n : Nat) (w : NowS) (y : EvS) : Prop where
  past : y.past = w.clock
  num : w.clock[y.rep.toNat]? = some (y.num - 1)
  time : y.time = w.time + 1
theorem made_nxt {m : ModS} {l A : List EvS} {ld : List Int} {w : NowS} {y : EvS} (hc : ClosedE l) (hw : StoA m l ld A w) (hA : Cau l A) (hy : Made (n0 l) w y) : Nxt A y := by
  have hno : ¬ HasC w.clock y.rep y.num := fun ⟨_, _, _, x, hx, hn⟩ => by
    rw [hy.num] at hx; cases hx; omega
  refine ⟨fun p hp ⟨h1, h2⟩ => hno ?_, fun p hp hh => hno ?_, fun p hp ⟨h1, _⟩ => ?_, by rw [hy.past]; exact hno⟩
  · rw [← h1, ← h2, hw.clock]
    exact (clk_has hc hA (hA.sub p hp)).2 hp
  · have h3 := clk_ins hc hA (hA.sub p hp) fun d hd hh => hA.cls p hp d hd hh
    rw [← hw.clock] at h3
    have h4 := (hc.2.2.1 p (hA.sub p hp))
    have hv : ValC w.clock := by rw [hw.clock]; exact clk_valC hc hA.sub (n0_rng hc (hA.sub p hp))
    refine has_ins hv h3 ?_ hh
    rw [hw.clock, clkE_len, h4.2]; exact Nat.le_refl _
  · have := (time_le (X := A) 0).2 p hp
    rw [← hw.time] at this
    have := hy.time
    omega
theorem made_ok {m : ModS} {l A : List EvS} {ld : List Int} {w : NowS} {y : EvS} (hs : SuitE m l) (hd : SmD m) (hld : ∀ x ∈ ld, -1000 ≤ x ∧ x ≤ 1000) (hw : StoA m l ld A w) (hAl : A.length ≤ 100) (hA : Cau l A) (hy : Made (n0 l) w y) (hv : EvV m (n0 l : Nat) y) :
    ∃ w', deliverF m A w y = (0, w') ∧ w'.clock = cntF w.clock y ∧ w'.time = max w.time y.time := by
  obtain ⟨hm, hfw, hc, hf, hvv⟩ := hs
  have hnx := made_nxt hc hw hA hy
  have hu : UniqP A := uniqP_sub (uniqP_of hc.2.1) hA.sub
  have hval := hw.merged.valL hm.lay hf hu (fun x hx => (hc.2.2.1 x (hA.sub x hx)).1) (by omega)
  have hclen : w.clock.length = n0 l := by rw [hw.clock, clkE_len]
  have hev : EvV m (y.past.length : Nat) y := by rw [hy.past, hclen]; exact hv
  obtain ⟨k', a1, a2, -⟩ := apply_step hm.lay hval (by omega) hw.merged hev hnx
  have hb := addE_bnd hd y (k := A.length) (by omega) (sto_bnd hd hld A (by omega))
  have h1 : EvV m (w.clock.length : Nat) y := by rw [hclen]; exact hv
  have h2 : ¬ HasC w.clock y.rep y.num := fun h => hnx.self (by rw [hy.past]; exact h)
  have h3 : Ins y.past w.clock := by rw [hy.past]; exact fun i a b ha hb => by rw [ha] at hb; cases hb; exact Int.le_refl _
  have h4 : ¬ LateE A y := fun ⟨x, hx, _, ht⟩ => by
    have := (time_le (X := A) 0).2 x hx
    rw [← hw.time] at this
    have := hy.time
    omega
  have h5 : ¬ (y.kind = 0 ∧ ¬ insS (addE m w.state y)) := fun ⟨_, h⟩ => h fun x hx => by
    rw [hw.state] at hx
    have := hb x hx
    omega
  have h6 : ¬ (applyF m w.merged y).1 ≠ 0 := by rw [a1]; exact fun h => h rfl
  refine ⟨⟨cntF w.clock y, max w.time y.time, addE m w.state y, k', plE w.places y⟩, ?_, rfl, rfl⟩
  rw [deliverF, if_neg (fun h => h h1), if_neg h2, if_neg (fun h => h h3), if_neg h4, if_neg h5, if_neg h6, a1]
theorem cnt_has {n : Nat} {w : NowS} {y : EvS} (hv : FormedE y) (hy : Made n w y) : HasC (cntF w.clock y) y.rep y.num := by
  obtain ⟨f1, f2, ⟨x, f3, f4⟩, f5, _⟩ := hv
  rw [hy.past] at f1 f3
  have hx := f1.1 x (List.mem_of_getElem? f3)
  have hl := (List.getElem?_eq_some_iff.1 f3).1
  unfold rngK at hx
  refine ⟨⟨fun z hz => ?_, by simp [cntF]; exact f1.2.1, by simp [cntF]; exact f1.2.2⟩, f2, by omega, max x y.num, ?_, by omega⟩
  · rcases List.mem_or_eq_of_mem_set hz with h | h
    · exact f1.1 z h
    · rw [h, f3, Option.getD_some]; unfold rngK; omega
  · rw [cntF, List.getElem?_set_self hl, f3, Option.getD_some]
/-- .. and it cannot be delivered twice. -/
theorem made_twice {m : ModS} {n : Nat} {w w' : NowS} {A : List EvS} {y : EvS} (hv : EvV m (n : Nat) y) (hn : w.clock.length = n) (hy : Made n w y) (hc : w'.clock = cntF w.clock y) : deliverF m A w' y = (6, w') := by
  have h1 : EvV m (w'.clock.length : Nat) y := by rw [hc, cntF, List.length_set, hn]; exact hv
  have h2 : HasC w'.clock y.rep y.num := by rw [hc]; exact cnt_has hv.1 hy
  rw [deliverF, if_neg (fun h => h h1), if_pos h2]
/-! ### Closed parts -/
/-! ### Compaction -/
structure StoS where
  base : NowS
  evs : List EvS
  now : NowS
noncomputable def inL (c : List Int) (l : List EvS) : List EvS := l.filter fun e => decide (HasC c e.rep e.num)
noncomputable def outL (c : List Int) (l : List EvS) : List EvS := l.filter fun e => decide (¬ HasC c e.rep e.num)
noncomputable def mrg1 (m : ModS) (k : List MgS) (e : EvS) : List MgS := (applyF m k e).2
noncomputable def cmp1 (m : ModS) (b : NowS) (e : EvS) : NowS := ⟨b.clock, max b.time e.time, addE m b.state e, mrg1 m b.merged e, plE b.places e⟩
noncomputable def cmpB (m : ModS) (b : NowS) (c : List Int) (l : List EvS) : NowS := { (inL c l).foldl (cmp1 m) b with clock := c }
noncomputable def compactF (m : ModS) (s : StoS) (c : List Int) : Int × StoS :=
  @ite _ (¬ (ValC c ∧ c.length = s.now.clock.length)) (Classical.propDecidable _) (1, s)
    (@ite _ (¬ (Ins s.base.clock c ∧ Ins c s.now.clock ∧ ∀ e ∈ s.evs, HasC c e.rep e.num → Ins e.past c)) (Classical.propDecidable _) (9, s)
      (0, ⟨cmpB m s.base c s.evs, outL c s.evs, { s.now with merged := (outL c s.evs).foldl (mrg1 m) (cmpB m s.base c s.evs).merged }⟩))
end Go.Proofs.YtmllihbhphnolaaGreat
namespace Go.Proofs.YtmllihbhphnolaaGreat
open Go Go.CF
set_option maxRecDepth 20000
def BefE (a b : EvS) : Prop := FormedE a ∧ FormedE b ∧ HasC b.past a.rep a.num
noncomputable instance (a b : EvS) : Decidable (BefE a b) := Classical.propDecidable _
def FreeE (rest : List EvS) (e : EvS) : Prop := ∀ y ∈ rest, ¬ BefE y e
noncomputable instance (rest : List EvS) (e : EvS) : Decidable (FreeE rest e) := Classical.propDecidable _
/-- The places of those that can come next. -/
noncomputable def freeN (rest : List EvS) : Nat → List Int
  | 0 => []
  | n + 1 => freeN rest n ++ (match rest[n]? with
    | some e => if FreeE rest e then [(n : Int)] else []
    | none => [])
noncomputable def atF (order : List Int) (n : Nat) (fr : List Int) : Int := match order[n]? with
  | some x => (fr[(x % (fr.length : Int)).toNat]?).getD 0
  | none => (fr[0]?).getD 0
/-- What is delivered, in the end. -/
inductive ExtR (order : List Int) : List EvS → List EvS → List EvS → Prop
  | done {out : List EvS} : ExtR order out [] out
  | step {out rest X : List EvS} {e : EvS} {i : Nat} : freeN rest rest.length ≠ [] → atF order out.length (freeN rest rest.length) = i → rest[i]? = some e → ExtR order (out ++ [e]) (rest.eraseIdx i) X → ExtR order out rest X
theorem free_mem {rest : List EvS} {n : Nat} (hn : n ≤ rest.length) {x : Int} : x ∈ freeN rest n ↔ ∃ (i : Nat) (e : EvS), x = i ∧ i < n ∧ rest[i]? = some e ∧ FreeE rest e := by
  induction n with
  | zero => simp [freeN]
  | succ n ih =>
    obtain ⟨e, he⟩ := get_of (l := rest) (i := n) (by omega)
    rw [freeN, List.mem_append, ih (by omega), he]
    constructor
    · rintro (⟨i, d, h1, h2, h3⟩ | h)
      · exact ⟨i, d, h1, by omega, h3⟩
      · simp only at h
        split at h
        · rename_i hf
          exact ⟨n, e, List.mem_singleton.1 h, by omega, he, hf⟩
        · cases h
    · rintro ⟨i, d, h1, h2, h3, h4⟩
      by_cases hi : i < n
      · exact .inl ⟨i, d, h1, hi, h3, h4⟩
      · have : i = n := by omega
        subst this
        rw [he] at h3; cases h3
        right
        simp only [if_pos h4, h1, List.mem_singleton]
theorem free_len (rest : List EvS) : ∀ n, (freeN rest n).length ≤ n := by
  intro n
  induction n with
  | zero => simp [freeN]
  | succ n ih =>
    rw [freeN, List.length_append]
    split
    · split <;> simp <;> omega
    · simp; omega
theorem at_mem {order : List Int} (ho : ∀ x ∈ order, 0 ≤ x) {n : Nat} {fr : List Int} (hf : fr ≠ []) : atF order n fr ∈ fr := by
  have hl : 0 < fr.length := List.length_pos_iff.2 hf
  unfold atF
  split
  · rename_i x hx
    have := ho x (List.mem_of_getElem? hx)
    have h1 : 0 ≤ x % (fr.length : Int) := Int.emod_nonneg _ (by omega)
    have h2 : x % (fr.length : Int) < fr.length := Int.emod_lt_of_pos _ (by omega)
    obtain ⟨y, hy⟩ := get_of (l := fr) (i := (x % (fr.length : Int)).toNat) (by omega)
    rw [hy, Option.getD_some]
    exact List.mem_of_getElem? hy
  · obtain ⟨y, hy⟩ := get_of (l := fr) (i := 0) hl
    rw [hy, Option.getD_some]
    exact List.mem_of_getElem? hy
theorem erase_perm {α : Type} : ∀ {l : List α} {i : Nat} {e : α}, l[i]? = some e → l.Perm (e :: l.eraseIdx i)
  | [], i, e, h => by simp at h
  | a :: l, 0, e, h => by
    simp only [List.getElem?_cons_zero, Option.some.injEq] at h
    subst h
    exact List.Perm.refl _
  | a :: l, i + 1, e, h => by
    have ih := erase_perm (l := l) (i := i) (e := e) (by simpa using h)
    rw [List.eraseIdx_cons_succ]
    exact (ih.cons a).trans (List.Perm.swap e a _)
theorem uniq_nodup {l : List EvS} (h : Uniq l) : l.Nodup := by
  rw [List.nodup_iff_pairwise_ne, List.pairwise_iff_getElem]
  intro i j hi hj hij he
  have := h i j _ _ (List.getElem?_eq_getElem hi) (List.getElem?_eq_getElem hj) (by rw [he])
  omega
/-- Of events of a closed list some can come next. -/
theorem free_ne {l rest : List EvS} (hc : ClosedE l) (hr : ∀ e ∈ rest, e ∈ l) (hn : rest ≠ []) : freeN rest rest.length ≠ [] := by
  have key : ∀ n, n ≤ rest.length → 0 < n → ∃ (i : Nat) (e : EvS), i < n ∧ rest[i]? = some e ∧ ∀ y ∈ rest.take n, e.time ≤ y.time := by
    intro n
    induction n with
    | zero => intro _ h; omega
    | succ n ih =>
      intro h1 _
      obtain ⟨d, hd⟩ := get_of (l := rest) (i := n) (by omega)
      have htk : rest.take (n + 1) = rest.take n ++ [d] := by rw [List.take_add_one, hd]; rfl
      rw [htk]
      by_cases h0 : n = 0
      · subst h0
        exact ⟨0, d, by omega, hd, fun y hy => by simp at hy; subst hy; exact Int.le_refl _⟩
      · obtain ⟨i, e, g1, g2, g3⟩ := ih (by omega) (by omega)
        by_cases hle : e.time ≤ d.time
        · refine ⟨i, e, by omega, g2, fun y hy => ?_⟩
          rcases List.mem_append.1 hy with hy | hy
          · exact g3 y hy
          · rw [List.mem_singleton.1 hy]; exact hle
        · refine ⟨n, d, by omega, hd, fun y hy => ?_⟩
          rcases List.mem_append.1 hy with hy | hy
          · have := g3 y hy; omega
          · rw [List.mem_singleton.1 hy]; exact Int.le_refl _
  obtain ⟨i, e, h1, h2, h3⟩ := key rest.length (Nat.le_refl _) (List.length_pos_iff.2 hn)
  rw [List.take_length] at h3
  have : (i : Int) ∈ freeN rest rest.length := (free_mem (Nat.le_refl _)).2 ⟨i, e, rfl, h1, h2, fun y hy hb => by
    have h4 := h3 y hy
    have := (closed_past hc (hr e (List.mem_of_getElem? h2)) (hr y hy) hb.2.2).1
    omega⟩
  exact fun h => by rw [h] at this; cases this
theorem ext_run {l : List EvS} (hc : ClosedE l) {order : List Int} (ho : ∀ x ∈ order, 0 ≤ x) : ∀ (n : Nat) (out rest : List EvS), rest.length = n → (out ++ rest).Perm l → ExtO l out → ∃ X, ExtR order out rest X ∧ ExtO l X ∧ X.Perm l := by
  intro n
  induction n with
  | zero =>
    intro out rest hn hp hx
    have hr := List.eq_nil_of_length_eq_zero hn
    subst hr
    exact ⟨out, .done, hx, by simpa using hp⟩
  | succ n ih =>
    intro out rest hn hp hx
    have hsub : ∀ e ∈ rest, e ∈ l := fun e he => hp.mem_iff.1 (by simp [he])
    have hf := free_ne hc hsub (by intro h; rw [h] at hn; cases hn)
    have hm := at_mem ho (n := out.length) hf
    obtain ⟨i, e, h1, h2, h3, h4⟩ := (free_mem (Nat.le_refl _)).1 hm
    have hel := hsub e (List.mem_of_getElem? h3)
    have hpe : rest.Perm (e :: rest.eraseIdx i) := erase_perm h3
    have hp2 : ((out ++ [e]) ++ rest.eraseIdx i).Perm l := by
      rw [List.append_assoc]
      exact (hpe.symm.append_left out).trans hp
    have hnd : (out ++ rest).Nodup := hp.symm.nodup (uniq_nodup hc.2.1)
    have hno : e ∉ out := fun h => (List.nodup_append.1 hnd).2.2 e h e (List.mem_of_getElem? h3) rfl
    obtain ⟨X, g1, g2, g3⟩ := ih (out ++ [e]) (rest.eraseIdx i) (by rw [List.length_eraseIdx, if_pos h2]; omega) hp2 (hx.snoc hel hno fun d hd hh => by
      have hd2 : d ∈ out ++ rest := hp.mem_iff.2 hd
      rcases List.mem_append.1 hd2 with h9 | h9
      · exact h9
      · exact absurd ⟨(hc.2.2.1 d hd).1, (hc.2.2.1 e hel).1, hh⟩ (h4 d h9))
    exact ⟨X, .step hf h1 h3 g1, g2, g3⟩
theorem ext_ok {l : List EvS} (hc : ClosedE l) {order : List Int} (ho : ∀ x ∈ order, 0 ≤ x) : ∃ X, ExtR order [] (ordE l) X ∧ ExtO l X ∧ X.Perm l :=
  ext_run hc ho _ [] (ordE l) rfl (by simpa using (ordE_perm l).symm) (ExtO.nil l)
end Go.Proofs.YtmllihbhphnolaaGreat
namespace Go.Proofs.YtmllihbhphnolaaGreat
open Go Go.CF
set_option maxRecDepth 20000
theorem less32_p (a b : EvS) : CallP Tryz.prog 228 [evA' a, evA' b] (bl (decide (LtE a b))) := by
  refine CallA.of pg ord228 Tryz.func228 rfl Tryz.ntmps228 Tryz.results228 rfl fun h0 G0 O0 => ?_
  repeat' (first | refine Sp.h ?_ | refine Lk.r rfl ?_ | refine Rf.mk rfl ?_ | (refine Bd.mk ?_ ?_ <;> intro _) | (refine All.mk ?_; intro _) | (apply TkB.r; (focus (repeat (first | exact Take.here | apply Take.there)))) | (apply Nm.r; (focus repeat (first | apply LN.cons | exact LN.nil))) | fail)
  all_goals exact Fin.p rfl (vb (by first | exact (decide_eq_true (by unfold LtE; omega)).symm | exact (decide_eq_false (by unfold LtE; omega)).symm | exact decide_eq_decide.2 (by unfold LtE; omega)))
theorem before32_p (a b : EvS) : CallP Tryz.prog 123 [evA' a, evA' b] (bl (decide (BefE a b))) := by
  have h1 := formedR_p a
  have h2 := formedR_p b
  have h3 := nameR_p a
  have h4 := hasR_p b.past a.rep a.num
  by_cases k1 : FormedE a
  · by_cases k2 : FormedE b
    · have : decide (BefE a b) = decide (HasC b.past a.rep a.num) := decide_eq_decide.2 ⟨fun h => h.2.2, fun h => ⟨k1, k2, h⟩⟩
      rw [this]
      refine CallA.of pg ord123 Tryz.func123 rfl Tryz.ntmps123 Tryz.results123 rfl fun h0 G0 O0 => ?_
      repeat' (first | refine Sp.h ?_ | refine Lk.r rfl ?_ | refine Rf.mk rfl ?_ | (apply Bd.t; (focus (first | assumption | omega | rfl))) | refine OpK.r rfl ?_ | (refine All.mk ?_; intro _) | (apply TkB.r; (focus (repeat (first | exact Take.here | apply Take.there)))) | refine Ch.l ⟨rfl, rfl⟩ ?_ | (apply Nm.r; (focus repeat (first | apply LN.cons | exact LN.nil))) | (apply CA.draw; (focus rfl); (focus kernel_rfl); (focus kernel_rfl); (focus repeat' (first | apply ON.one | exact ON.done | exact ON.none | apply ON.alt)); (focus rfl)) | fail | (apply Cl.p (h1); (focus ((repeat' (first | exact Lend.nil | apply Lend.keep | apply Lend.agg | fail)); done))) | (apply Cl.p (h2); (focus ((repeat' (first | exact Lend.nil | apply Lend.keep | apply Lend.agg | fail)); done))) | (apply Cl.p (h3); (focus ((repeat' (first | exact Lend.nil | apply Lend.keep | apply Lend.agg | fail)); done))) | (apply Cl.p (h4); (focus ((repeat' (first | exact Lend.nil | apply Lend.keep | apply Lend.agg | fail)); done))))
      all_goals exact Fin.p rfl rfl
    · have : decide (BefE a b) = false := decide_eq_false fun h => k2 h.2.1
      rw [this]
      refine CallA.of pg ord123 Tryz.func123 rfl Tryz.ntmps123 Tryz.results123 rfl fun h0 G0 O0 => ?_
      repeat' (first | refine Sp.h ?_ | refine Lk.r rfl ?_ | refine Rf.mk rfl ?_ | (apply Bd.t; (focus (first | assumption | omega | rfl))) | (apply Bd.f; (focus (first | assumption | omega | exact Bool.false_ne_true))) | refine OpK.r rfl ?_ | (refine All.mk ?_; intro _) | (apply TkB.r; (focus (repeat (first | exact Take.here | apply Take.there)))) | refine Ch.l ⟨rfl, rfl⟩ ?_ | (apply Nm.r; (focus repeat (first | apply LN.cons | exact LN.nil))) | (apply CA.draw; (focus rfl); (focus kernel_rfl); (focus kernel_rfl); (focus repeat' (first | apply ON.one | exact ON.done | exact ON.none | apply ON.alt)); (focus rfl)) | fail | (apply Cl.p (h1); (focus ((repeat' (first | exact Lend.nil | apply Lend.keep | apply Lend.agg | fail)); done))) | (apply Cl.p (h2); (focus ((repeat' (first | exact Lend.nil | apply Lend.keep | apply Lend.agg | fail)); done))) | (apply Cl.p (h3); (focus ((repeat' (first | exact Lend.nil | apply Lend.keep | apply Lend.agg | fail)); done))) | (apply Cl.p (h4); (focus ((repeat' (first | exact Lend.nil | apply Lend.keep | apply Lend.agg | fail)); done))))
      all_goals exact Fin.p rfl rfl
  · have : decide (BefE a b) = false := decide_eq_false fun h => k1 h.1
    rw [this]
    refine CallA.of pg ord123 Tryz.func123 rfl Tryz.ntmps123 Tryz.results123 rfl fun h0 G0 O0 => ?_
    repeat' (first | refine Sp.h ?_ | refine Lk.r rfl ?_ | refine Rf.mk rfl ?_ | (apply Bd.f; (focus (first | assumption | omega | exact Bool.false_ne_true))) | refine OpK.r rfl ?_ | (refine All.mk ?_; intro _) | (apply TkB.r; (focus (repeat (first | exact Take.here | apply Take.there)))) | refine Ch.l ⟨rfl, rfl⟩ ?_ | (apply Nm.r; (focus repeat (first | apply LN.cons | exact LN.nil))) | (apply CA.draw; (focus rfl); (focus kernel_rfl); (focus kernel_rfl); (focus repeat' (first | apply ON.one | exact ON.done | exact ON.none | apply ON.alt)); (focus rfl)) | fail | (apply Cl.p (h1); (focus ((repeat' (first | exact Lend.nil | apply Lend.keep | fail)); done))) | (apply Cl.p (h2); (focus ((repeat' (first | exact Lend.nil | apply Lend.keep | fail)); done))) | (apply Cl.p (h3); (focus ((repeat' (first | exact Lend.nil | apply Lend.keep | fail)); done))) | (apply Cl.p (h4); (focus ((repeat' (first | exact Lend.nil | apply Lend.keep | fail)); done))))
    all_goals exact Fin.p rfl rfl
theorem before_p (a b : EvS) : CallP Tryz.prog 22 [evA' a, evA' b] (bl (decide (BefE a b))) := by
  have h1 := formed_p a
  have h2 := formed_p b
  have h3 : CallP Tryz.prog 96 [evA' a, evA' b] (bl (decide (HasC b.past a.rep a.num))) := by
    have g1 := name_p a
    have g2 := hasC_p b.past a.rep a.num
    refine CallA.of pg ord96 Tryz.func96 rfl Tryz.ntmps96 Tryz.results96 rfl fun h0 G0 O0 => ?_
    repeat' (first | refine Sp.h ?_ | refine Lk.r rfl ?_ | refine Rf.mk rfl ?_ | refine OpK.r rfl ?_ | (refine All.mk ?_; intro _) | (apply TkB.r; (focus (repeat (first | exact Take.here | apply Take.there)))) | refine Ch.l ⟨rfl, rfl⟩ ?_ | (apply Nm.r; (focus repeat (first | apply LN.cons | exact LN.nil))) | (apply CA.draw; (focus rfl); (focus kernel_rfl); (focus kernel_rfl); (focus repeat' (first | apply ON.one | exact ON.done | exact ON.none | apply ON.alt)); (focus rfl)) | fail | (apply Cl.p (g1); (focus ((repeat' (first | exact Lend.nil | apply Lend.keep | fail)); done))) | (apply Cl.p (g2); (focus ((repeat' (first | exact Lend.nil | apply Lend.keep | fail)); done))))
    exact Fin.p rfl rfl
  by_cases k1 : FormedE a
  · by_cases k2 : FormedE b
    · have : decide (BefE a b) = decide (HasC b.past a.rep a.num) := decide_eq_decide.2 ⟨fun h => h.2.2, fun h => ⟨k1, k2, h⟩⟩
      rw [this]
      refine CallA.of pg ord22 Tryz.func22 rfl Tryz.ntmps22 Tryz.results22 rfl fun h0 G0 O0 => ?_
      repeat' (first | refine Sp.h ?_ | refine Lk.r rfl ?_ | refine Rf.mk rfl ?_ | (apply Bd.t; (focus (first | assumption | omega | rfl))) | (refine All.mk ?_; intro _) | (apply TkB.r; (focus (repeat (first | exact Take.here | apply Take.there)))) | refine Ch.l ⟨rfl, rfl⟩ ?_ | (apply Nm.r; (focus repeat (first | apply LN.cons | exact LN.nil))) | fail | (apply Cl.p (h1); (focus ((repeat' (first | exact Lend.nil | apply Lend.keep | apply Lend.agg | fail)); done))) | (apply Cl.p (h2); (focus ((repeat' (first | exact Lend.nil | apply Lend.keep | apply Lend.agg | fail)); done))) | (apply Cl.p (h3); (focus ((repeat' (first | exact Lend.nil | apply Lend.keep | apply Lend.agg | fail)); done))))
      all_goals exact Fin.p rfl rfl
    · have : decide (BefE a b) = false := decide_eq_false fun h => k2 h.2.1
      rw [this]
      refine CallA.of pg ord22 Tryz.func22 rfl Tryz.ntmps22 Tryz.results22 rfl fun h0 G0 O0 => ?_
      repeat' (first | refine Sp.h ?_ | refine Lk.r rfl ?_ | refine Rf.mk rfl ?_ | (apply Bd.t; (focus (first | assumption | omega | rfl))) | (apply Bd.f; (focus (first | assumption | omega | exact Bool.false_ne_true))) | (refine All.mk ?_; intro _) | (apply TkB.r; (focus (repeat (first | exact Take.here | apply Take.there)))) | refine Ch.l ⟨rfl, rfl⟩ ?_ | (apply Nm.r; (focus repeat (first | apply LN.cons | exact LN.nil))) | fail | (apply Cl.p (h1); (focus ((repeat' (first | exact Lend.nil | apply Lend.keep | apply Lend.agg | fail)); done))) | (apply Cl.p (h2); (focus ((repeat' (first | exact Lend.nil | apply Lend.keep | apply Lend.agg | fail)); done))) | (apply Cl.p (h3); (focus ((repeat' (first | exact Lend.nil | apply Lend.keep | apply Lend.agg | fail)); done))))
      all_goals exact Fin.p rfl rfl
  · have : decide (BefE a b) = false := decide_eq_false fun h => k1 h.1
    rw [this]
    refine CallA.of pg ord22 Tryz.func22 rfl Tryz.ntmps22 Tryz.results22 rfl fun h0 G0 O0 => ?_
    repeat' (first | refine Sp.h ?_ | refine Lk.r rfl ?_ | refine Rf.mk rfl ?_ | (apply Bd.f; (focus (first | assumption | omega | exact Bool.false_ne_true))) | (refine All.mk ?_; intro _) | (apply TkB.r; (focus (repeat (first | exact Take.here | apply Take.there)))) | refine Ch.l ⟨rfl, rfl⟩ ?_ | (apply Nm.r; (focus repeat (first | apply LN.cons | exact LN.nil))) | fail | (apply Cl.p (h1); (focus ((repeat' (first | exact Lend.nil | apply Lend.keep | fail)); done))) | (apply Cl.p (h2); (focus ((repeat' (first | exact Lend.nil | apply Lend.keep | fail)); done))) | (apply Cl.p (h3); (focus ((repeat' (first | exact Lend.nil | apply Lend.keep | fail)); done))))
    all_goals exact Fin.p rfl rfl
set_option maxHeartbeats 4000000 in
theorem order32_o (l : List EvS) (hu : Uniq l) (hl : l.length ≤ 100000) : CallO Tryz.prog 152 [evs l] 37 13 (ordE l) evC := by
  refine CallA.of pg ord152 Tryz.func152 rfl Tryz.ntmps152 Tryz.results152 rfl fun h0 G0 O0 => ?_
  repeat' (first | refine Sp.h ?_ | refine Lk.r rfl ?_ | refine Rf.mk rfl ?_ | (refine All.mk ?_; intro _) | (apply Fk.r; (focus (repeat (first | exact FillA.nil | (apply FillA.agg; (focus rfl); (focus rfl); (focus (repeat (first | exact SetAs.z | (apply SetAs.c; (focus (repeat (first | assumption | exact SetA.z | apply SetA.s)))))))) | (apply FillA.one; (focus rfl); (focus infer_instance); (focus (repeat (first | assumption | exact SetA.z | apply SetA.s)))))))) | refine Rf.mk ⟨rfl, rfl, rfl⟩ ?_ | fail)
  rename_i v
  apply CA.retype (m := ([] : List EvS)) (g := evC)
  focus (repeat (first | exact Take.here | apply Take.there))
  focus rfl
  refine CA.loop (fun x : Nat × Value × List EvS => ⟨[(0, evs l), (3, .ow x.2.1), (4, it x.1)], [arrR x.2.1 37 13 x.2.2 evC]⟩) (fun x => x.1 ≤ l.length ∧ x.2.2.length = x.1 ∧ (l.take x.1).Perm x.2.2 ∧ SrtE x.2.2) (fun x => l.length - x.1) (0, v, []) ⟨by (repeat (first | exact trivial | refine ⟨rfl, ?_⟩)), by (repeat (first | exact Subl.nil | refine Subl.cons (by (repeat (first | exact Take.here | apply Take.there))) ?_))⟩ ⟨Nat.zero_le _, rfl, by simp, List.Pairwise.nil⟩ ?_
  rintro ⟨i, w, s⟩ ⟨hi, hsl, hp, hs⟩
  simp only at hi hsl hp hs
  simp only
  by_cases hin : i < l.length
  · obtain ⟨x, hx⟩ := get_of hin
    have hsu : l.take (i + 1) = l.take i ++ [x] := by rw [List.take_add_one, hx]; rfl
    repeat' (first | refine Sp.h ?_ | refine Lk.r rfl ?_ | refine Rf.mk rfl ?_ | (apply Bd.t; (focus (first | assumption | omega | rfl))) | (refine Im.mk ?_; intro _) | (apply TkA.r; (focus (repeat (first | exact Take.here | apply Take.there)))) | fail)
    refine CA.loop (fun j : Nat => ⟨[(0, evs l), (3, .ow w), (4, it i), (5, it j)], [arrR w 37 13 s evC]⟩) (fun j => j ≤ s.length ∧ ∀ y ∈ s.drop j, LtE x y) (fun j => j) s.length ?_ ⟨Nat.le_refl _, by simp⟩ ?_
    · exact ⟨by (repeat (first | exact trivial | refine ⟨rfl, ?_⟩)), by (repeat (first | exact Subl.nil | refine Subl.cons (by (repeat (first | exact Take.here | apply Take.there))) ?_))⟩
    rintro j ⟨hj, hlt⟩
    have fin : (∀ m y, s.take j = m ++ [y] → ¬ LtE x y) → (l.take (i + 1)).Perm (s.take j ++ x :: s.drop j) ∧ SrtE (s.take j ++ x :: s.drop j) := fun h => by
      refine ⟨?_, srt_ins (by rw [List.take_append_drop]; exact hs) hlt h⟩
      rw [hsu]
      refine (hp.append_right [x]).trans ?_
      refine List.perm_append_comm.trans ?_
      rw [List.singleton_append]
      refine (List.Perm.cons x (by rw [List.take_append_drop] : s.Perm (s.take j ++ s.drop j))).trans ?_
      exact List.perm_middle.symm
    have he : s.take (j - 0) ++ [x] ++ ([] ++ (s.drop j).take (s.length - j)) = s.take j ++ x :: s.drop j := by
      rw [List.take_of_length_le (l := s.drop j) (by simp)]; simp
    by_cases hj0 : j = 0
    · subst hj0
      obtain ⟨f1, f2⟩ := fin (fun m y h => by simp at h)
      repeat' (first | refine Sp.h ?_ | refine Lk.r rfl ?_ | refine Rf.mk rfl ?_ | (apply Bd.f; (focus (first | assumption | omega | exact Bool.false_ne_true))) | refine OpK.r rfl ?_ | (apply Om.mk; (focus first | omega | (simp <;> omega))) | (refine All.mk ?_; intro _) | (apply TkA.r; (focus (repeat (first | exact Take.here | apply Take.there)))) | (apply Ix.q; (focus exact rfl); (focus assumption)) | refine Ce.l rfl ?_ | refine Ce.r ?_ | refine Ch.l ⟨rfl, rfl⟩ ?_ | (apply Fk.r; (focus (repeat (first | exact FillA.nil | (apply FillA.agg; (focus rfl); (focus rfl); (focus (repeat (first | exact SetAs.z | (apply SetAs.c; (focus (repeat (first | assumption | exact SetA.z | apply SetA.s)))))))) | (apply FillA.one; (focus rfl); (focus infer_instance); (focus (repeat (first | assumption | exact SetA.z | apply SetA.s)))))))) | refine Rf.mk ⟨rfl, rfl⟩ ?_ | refine Rf.mk ⟨rfl, rfl, rfl⟩ ?_ | (apply Jx.r; (focus exact rfl); (focus first | omega | (simp; done) | (simp; omega))) | refine Mp.same ?_ | (apply Mp.lit; (focus repeat (first | exact MpL.nil | (apply MpL.cons; (focus rfl)) | (apply MpL.inv; (focus repeat (first | apply LN.cons | exact LN.nil)); (focus infer_instance))))) | (apply CA.draw; (focus rfl); (focus kernel_rfl); (focus kernel_rfl); (focus repeat' (first | apply ON.one | exact ON.done | exact ON.none | apply ON.alt)); (focus rfl)) | (apply Ov.n; (focus first | omega | (simp <;> omega))) | fail)
      all_goals rw [he]
      all_goals exact PA.lp (i + 1, _, s.take 0 ++ x :: s.drop 0) ⟨by (repeat (first | exact trivial | refine ⟨rfl, ?_⟩)), by (repeat (first | exact Subl.nil | refine Subl.cons (by (repeat (first | exact Take.here | apply Take.there))) ?_))⟩ ⟨⟨hin, by simp; omega, f1, f2⟩, by simp only; omega⟩
    · obtain ⟨y, hy⟩ := get_of (l := s) (i := j - 1) (by omega)
      have hle := less32_p x y
      have htj : s.take j = s.take (j - 1) ++ [y] := by
        have := List.take_add_one (l := s) (i := j - 1)
        rw [show j - 1 + 1 = j by omega, hy] at this
        exact this
      by_cases hxy : LtE x y
      · repeat' (first | refine Sp.h ?_ | refine Lk.r rfl ?_ | refine Rf.mk rfl ?_ | (apply Bd.t; (focus (first | assumption | omega | rfl))) | refine OpK.r rfl ?_ | (apply TkA.r; (focus (repeat (first | exact Take.here | apply Take.there)))) | (apply Ix.q; (focus exact rfl); (focus assumption)) | (apply Ix.r; (focus assumption); (focus omega)) | (apply At.r; (focus assumption)) | refine Ch.l ⟨rfl, rfl⟩ ?_ | (apply CA.draw; (focus rfl); (focus kernel_rfl); (focus kernel_rfl); (focus repeat' (first | apply ON.one | exact ON.done | exact ON.none | apply ON.alt)); (focus rfl)) | (apply Ov.n; (focus first | omega | (simp <;> omega))) | fail | (apply Cl.p (hle); (focus repeat' (first | exact Lend.nil | apply Lend.keep | fail))))
        rw [show ((j : Int) - 1) = ((j - 1 : Nat) : Int) by omega]
        refine PA.lp (j - 1) ⟨by (repeat (first | exact trivial | refine ⟨rfl, ?_⟩)), by (repeat (first | exact Subl.nil | refine Subl.cons (by (repeat (first | exact Take.here | apply Take.there))) ?_))⟩ ⟨⟨by omega, fun z hz => ?_⟩, by omega⟩
        have hd : s.drop (j - 1) = y :: s.drop j := by
          have h9 := List.drop_eq_getElem_cons (l := s) (i := j - 1) (by omega)
          rw [(List.getElem?_eq_some_iff.1 hy).2, show j - 1 + 1 = j by omega] at h9
          exact h9
        rw [hd] at hz
        rcases List.mem_cons.1 hz with rfl | hz
        · exact hxy
        · exact hlt z hz
      · obtain ⟨f1, f2⟩ := fin (fun m z h => by
          rw [htj] at h
          have := List.append_inj_right' h rfl
          cases this; exact hxy)
        repeat' (first | refine Sp.h ?_ | refine Lk.r rfl ?_ | refine Rf.mk rfl ?_ | (apply Bd.t; (focus (first | assumption | omega | rfl))) | (apply Bd.f; (focus (first | assumption | omega | exact Bool.false_ne_true))) | refine OpK.r rfl ?_ | (apply Om.mk; (focus first | omega | (simp <;> omega))) | (refine All.mk ?_; intro _) | (apply TkA.r; (focus (repeat (first | exact Take.here | apply Take.there)))) | (apply Ix.q; (focus exact rfl); (focus assumption)) | (apply Ix.r; (focus assumption); (focus omega)) | (apply At.r; (focus assumption)) | refine Ce.l rfl ?_ | refine Ce.r ?_ | refine Ch.l ⟨rfl, rfl⟩ ?_ | (apply Fk.r; (focus (repeat (first | exact FillA.nil | (apply FillA.agg; (focus rfl); (focus rfl); (focus (repeat (first | exact SetAs.z | (apply SetAs.c; (focus (repeat (first | assumption | exact SetA.z | apply SetA.s)))))))) | (apply FillA.one; (focus rfl); (focus infer_instance); (focus (repeat (first | assumption | exact SetA.z | apply SetA.s)))))))) | refine Rf.mk ⟨rfl, rfl⟩ ?_ | refine Rf.mk ⟨rfl, rfl, rfl⟩ ?_ | (apply Jx.r; (focus exact rfl); (focus first | omega | (simp; done) | (simp; omega))) | refine Mp.same ?_ | (apply Mp.lit; (focus repeat (first | exact MpL.nil | (apply MpL.cons; (focus rfl)) | (apply MpL.inv; (focus repeat (first | apply LN.cons | exact LN.nil)); (focus infer_instance))))) | (apply CA.draw; (focus rfl); (focus kernel_rfl); (focus kernel_rfl); (focus repeat' (first | apply ON.one | exact ON.done | exact ON.none | apply ON.alt)); (focus rfl)) | (apply Ov.n; (focus first | omega | (simp <;> omega))) | fail | (apply Cl.p (hle); (focus repeat' (first | exact Lend.nil | apply Lend.keep | fail))))
        all_goals rw [he]
        all_goals exact PA.lp (i + 1, _, s.take j ++ x :: s.drop j) ⟨by (repeat (first | exact trivial | refine ⟨rfl, ?_⟩)), by (repeat (first | exact Subl.nil | refine Subl.cons (by (repeat (first | exact Take.here | apply Take.there))) ?_))⟩ ⟨⟨hin, by simp only [List.length_append, List.length_cons, List.length_take, List.length_drop]; omega, f1, f2⟩, by simp only; omega⟩
  · have hie : i = l.length := by omega
    subst hie
    rw [List.take_length] at hp
    have he := ordE_uniq hu hp hs
    subst he
    repeat' (first | refine Sp.h ?_ | refine Lk.r rfl ?_ | refine Rf.mk rfl ?_ | (apply Bd.f; (focus (first | assumption | omega | exact Bool.false_ne_true))) | (refine Im.mk ?_; intro _) | (apply Nm.r; (focus repeat (first | apply LN.cons | exact LN.nil))) | fail)
    exact ⟨_, _, .one (.same (.nil (by (repeat (first | exact Subl.nil | refine Subl.cons (by (repeat (first | exact Take.here | apply Take.there))) ?_))))), _, rfl, rfl⟩
abbrev u8s (l : List Int) : AV := .sl 1 l fun x => [.val (.int .u8 x)]
set_option maxHeartbeats 4000000 in
theorem extension_o (l : List EvS) (order : List Int) (X : List EvS) (hu : Uniq l) (hl : l.length ≤ 100000) (ho : ∀ x ∈ order, 0 ≤ x ∧ x ≤ 255) (hx : ExtR order [] (ordE l) X) : CallO Tryz.prog 82 [evs l, u8s order] 37 13 X evC := by
  have hor := order32_o l hu hl
  have hol := ordE_len l
  refine CallA.of pg ord82 Tryz.func82 rfl Tryz.ntmps82 Tryz.results82 rfl fun h0 G0 O0 => ?_
  repeat' (first | refine Sp.h ?_ | refine Lk.r rfl ?_ | refine Rf.mk rfl ?_ | fail)
  (refine Cl.use (hor) (by repeat' (first | exact Lend.nil | apply Lend.keep | fail)) .nil rfl ?_; rintro _ _ ⟨_, rfl, rfl⟩)
  repeat' (first | refine Sp.h ?_ | refine Lk.r rfl ?_ | refine Rf.mk rfl ?_ | (refine All.mk ?_; intro _) | (apply Fk.r; (focus (repeat (first | exact FillA.nil | (apply FillA.agg; (focus rfl); (focus rfl); (focus (repeat (first | exact SetAs.z | (apply SetAs.c; (focus (repeat (first | assumption | exact SetA.z | apply SetA.s)))))))) | (apply FillA.one; (focus rfl); (focus infer_instance); (focus (repeat (first | assumption | exact SetA.z | apply SetA.s)))))))) | refine Rf.mk ⟨rfl, rfl, rfl⟩ ?_ | fail)
  rename_i w v
  apply CA.retype (v := v) (m := ([] : List EvS)) (g := evC)
  focus (repeat (first | exact Take.here | apply Take.there))
  focus rfl
  refine CA.loop (fun x : Value × Value × List EvS × List EvS => ⟨[(0, evs l), (1, u8s order), (5, .ow x.1), (6, .ow x.2.1)], [arrR x.1 37 13 x.2.2.2 evC, arrR x.2.1 37 13 x.2.2.1 evC]⟩) (fun x => ExtR order x.2.2.1 x.2.2.2 X ∧ x.2.2.1.length + x.2.2.2.length ≤ 100000) (fun x => x.2.2.2.length) (w, v, [], ordE l) ⟨by (repeat (first | exact trivial | refine ⟨rfl, ?_⟩)), by (repeat (first | exact Subl.nil | refine Subl.cons (by (repeat (first | exact Take.here | apply Take.there))) ?_))⟩ ⟨hx, by simp; omega⟩ ?_
  rintro ⟨wr, wo, out, rest⟩ ⟨hr, hlen⟩
  simp only at hr hlen
  simp only
  cases hr with
  | done =>
    have hz : ([] : List EvS).length = 0 := rfl
    repeat' (first | refine Sp.h ?_ | refine Lk.r rfl ?_ | refine Rf.mk rfl ?_ | (apply Bd.f; (focus (first | assumption | omega | exact Bool.false_ne_true))) | (apply TkA.r; (focus (repeat (first | exact Take.here | apply Take.there)))) | (apply Nm.r; (focus repeat (first | apply LN.cons | exact LN.nil))) | fail)
    exact ⟨_, _, .one (.same (.nil (by (repeat (first | exact Subl.nil | refine Subl.cons (by (repeat (first | exact Take.here | apply Take.there))) ?_))))), _, rfl, rfl⟩
  | @step _ _ _ e i hf hat he hr =>
    have hi := (List.getElem?_eq_some_iff.1 he).1
    repeat' (first | refine Sp.h ?_ | refine Lk.r rfl ?_ | refine Rf.mk rfl ?_ | (apply Bd.t; (focus (first | assumption | omega | rfl))) | (refine All.mk ?_; intro _) | (apply TkA.r; (focus (repeat (first | exact Take.here | apply Take.there)))) | (apply Fk.r; (focus (repeat (first | exact FillA.nil | (apply FillA.agg; (focus rfl); (focus rfl); (focus (repeat (first | exact SetAs.z | (apply SetAs.c; (focus (repeat (first | assumption | exact SetA.z | apply SetA.s)))))))) | (apply FillA.one; (focus rfl); (focus infer_instance); (focus (repeat (first | assumption | exact SetA.z | apply SetA.s)))))))) | refine Rf.mk ⟨rfl, rfl, rfl⟩ ?_ | fail)
    rename_i vf
    apply CA.retype (v := vf) (m := ([] : List Int)) (g := intC)
    focus (repeat (first | exact Take.here | apply Take.there))
    focus rfl
    refine CA.loop (fun x : Nat × Value => ⟨[(0, evs l), (1, u8s order), (5, .ow wr), (6, .ow wo), (7, .ow x.2), (8, it x.1)], [arrR wr 37 13 rest evC, arrR wo 37 13 out evC, arrR x.2 3 1 (freeN rest x.1) intC]⟩) (fun x => x.1 ≤ rest.length) (fun x => rest.length - x.1) (0, vf) ⟨by (repeat (first | exact trivial | refine ⟨rfl, ?_⟩)), by (repeat (first | exact Subl.nil | refine Subl.cons (by (repeat (first | exact Take.here | apply Take.there))) ?_))⟩ (Nat.zero_le _) ?_
    rintro ⟨q, vf⟩ hq
    simp only at hq
    simp only
    by_cases hqn : q < rest.length
    · obtain ⟨x, hx⟩ := get_of hqn
      have hfl := free_len rest q
      repeat' (first | refine Sp.h ?_ | refine Lk.r rfl ?_ | refine Rf.mk rfl ?_ | (apply Bd.t; (focus (first | assumption | omega | rfl))) | (apply TkA.r; (focus (repeat (first | exact Take.here | apply Take.there)))) | fail)
      refine CA.loop (fun s : Nat × Bool => ⟨[(0, evs l), (1, u8s order), (5, .ow wr), (6, .ow wo), (7, .ow vf), (8, it q), (9, bl s.2), (10, it s.1)], [arrR wr 37 13 rest evC, arrR wo 37 13 out evC, arrR vf 3 1 (freeN rest q) intC]⟩) (fun s => s.1 ≤ rest.length ∧ (s.2 = true ↔ ∀ y ∈ rest.take s.1, ¬ BefE y x)) (fun s => rest.length - s.1) (0, true) ⟨by (repeat (first | exact trivial | refine ⟨rfl, ?_⟩)), by (repeat (first | exact Subl.nil | refine Subl.cons (by (repeat (first | exact Take.here | apply Take.there))) ?_))⟩ ⟨Nat.zero_le _, by simp⟩ ?_
      rintro ⟨k, b⟩ ⟨hk, hb⟩
      simp only at hk hb
      simp only
      by_cases hkn : k < rest.length
      · obtain ⟨y, hy⟩ := get_of hkn
        have hbf := before32_p y x
        have hsu : rest.take (k + 1) = rest.take k ++ [y] := by rw [List.take_add_one, hy]; rfl
        cases b
        · repeat' (first | refine Sp.h ?_ | refine Lk.r rfl ?_ | refine Rf.mk rfl ?_ | (apply Bd.t; (focus (first | assumption | omega | rfl))) | refine OpK.r rfl ?_ | (apply TkA.r; (focus (repeat (first | exact Take.here | apply Take.there)))) | (apply CA.draw; (focus rfl); (focus kernel_rfl); (focus kernel_rfl); (focus repeat' (first | apply ON.one | exact ON.done | exact ON.none | apply ON.alt)); (focus rfl)) | (apply Ov.n; (focus first | omega | (simp <;> omega))) | fail)
          refine PA.lp (k + 1, false) ⟨by (repeat (first | exact trivial | refine ⟨rfl, ?_⟩)), by (repeat (first | exact Subl.nil | refine Subl.cons (by (repeat (first | exact Take.here | apply Take.there))) ?_))⟩ ⟨⟨hkn, ?_⟩, by simp only; omega⟩
          simp only [Bool.false_eq_true, false_iff] at hb ⊢
          intro h
          exact hb fun z hz => h z (by rw [hsu]; simp [hz])
        · repeat' (first | refine Sp.h ?_ | refine Lk.r rfl ?_ | refine Rf.mk rfl ?_ | (apply Bd.t; (focus (first | assumption | omega | rfl))) | refine OpK.r rfl ?_ | (apply TkA.r; (focus (repeat (first | exact Take.here | apply Take.there)))) | (apply Ix.q; (focus exact rfl); (focus assumption)) | (apply At.r; (focus assumption)) | refine Ch.l ⟨rfl, rfl⟩ ?_ | (apply CA.draw; (focus rfl); (focus kernel_rfl); (focus kernel_rfl); (focus repeat' (first | apply ON.one | exact ON.done | exact ON.none | apply ON.alt)); (focus rfl)) | (apply Ov.n; (focus first | omega | (simp <;> omega))) | fail | (apply Cl.p (hbf); (focus repeat' (first | exact Lend.nil | apply Lend.keep | fail))))
          refine PA.lp (k + 1, decide (¬ BefE y x)) ⟨by (repeat (first | exact trivial | refine ⟨rfl, ?_⟩)), by (repeat (first | exact Subl.nil | refine Subl.cons (by (repeat (first | exact Take.here | apply Take.there))) ?_))⟩ ⟨⟨hkn, ?_⟩, by simp only; omega⟩
          simp only [decide_eq_true_eq]
          rw [hsu]
          have hb := hb.1 rfl
          constructor
          · intro h z hz
            rcases List.mem_append.1 hz with hz | hz
            · exact hb z hz
            · rw [List.mem_singleton.1 hz]; exact h
          · intro h; exact h y (by simp)
      · have hke : k = rest.length := by omega
        subst hke
        rw [List.take_length] at hb
        have hfs : freeN rest (q + 1) = freeN rest q ++ (if b = true then [(q : Int)] else []) := by
          rw [freeN, hx]
          by_cases h9 : FreeE rest x
          · rw [if_pos (hb.2 h9)]; simp only [if_pos h9]
          · rw [if_neg (fun h8 => h9 (hb.1 h8))]; simp only [if_neg h9]
        cases b
        · rw [if_neg (by simp), List.append_nil] at hfs
          repeat' (first | refine Sp.h ?_ | refine Lk.r rfl ?_ | refine Rf.mk rfl ?_ | (apply Bd.f; (focus (first | assumption | omega | exact Bool.false_ne_true))) | (apply TkA.r; (focus (repeat (first | exact Take.here | apply Take.there)))) | (apply Ov.n; (focus first | omega | (simp <;> omega))) | fail)
          rw [← hfs]
          exact PA.lp (q + 1, vf) ⟨by (repeat (first | exact trivial | refine ⟨rfl, ?_⟩)), by (repeat (first | exact Subl.nil | refine Subl.cons (by (repeat (first | exact Take.here | apply Take.there))) ?_))⟩ ⟨hqn, by simp only; omega⟩
        · rw [if_pos rfl] at hfs
          repeat' (first | refine Sp.h ?_ | refine Lk.r rfl ?_ | refine Rf.mk rfl ?_ | (apply Bd.f; (focus (first | assumption | omega | exact Bool.false_ne_true))) | (apply Om.mk; (focus first | omega | (simp <;> omega))) | (refine All.mk ?_; intro _) | (apply TkA.r; (focus (repeat (first | exact Take.here | apply Take.there)))) | refine Ce.r ?_ | (apply Fk.r; (focus (repeat (first | exact FillA.nil | (apply FillA.agg; (focus rfl); (focus rfl); (focus (repeat (first | exact SetAs.z | (apply SetAs.c; (focus (repeat (first | assumption | exact SetA.z | apply SetA.s)))))))) | (apply FillA.one; (focus rfl); (focus infer_instance); (focus (repeat (first | assumption | exact SetA.z | apply SetA.s)))))))) | refine Rf.mk ⟨rfl, rfl⟩ ?_ | refine Rf.mk ⟨rfl, rfl, rfl⟩ ?_ | (apply Mp.lit; (focus repeat (first | exact MpL.nil | (apply MpL.cons; (focus rfl)) | (apply MpL.inv; (focus repeat (first | apply LN.cons | exact LN.nil)); (focus infer_instance))))) | (apply Ov.n; (focus first | omega | (simp <;> omega))) | fail)
          rw [← hfs]
          exact PA.lp (q + 1, _) ⟨by (repeat (first | exact trivial | refine ⟨rfl, ?_⟩)), by (repeat (first | exact Subl.nil | refine Subl.cons (by (repeat (first | exact Take.here | apply Take.there))) ?_))⟩ ⟨hqn, by simp only; omega⟩
    · have hqe : q = rest.length := by omega
      subst hqe
      obtain ⟨fr, hfr⟩ : ∃ fr, fr = freeN rest rest.length := ⟨_, rfl⟩
      rw [← hfr] at hf hat ⊢
      have hfl : 0 < fr.length := List.length_pos_iff.2 hf
      obtain ⟨f0, hf0⟩ := get_of (l := fr) (i := 0) hfl
      have her : [] ++ (rest.drop 0).take (i - 0) ++ (rest.drop (i + 1)).take (rest.length - (i + 1)) = rest.eraseIdx i := by
        rw [List.take_of_length_le (l := rest.drop (i + 1)) (by simp), List.eraseIdx_eq_take_drop_succ]; rfl
      have hel : (rest.eraseIdx i).length + 1 = rest.length := by rw [List.length_eraseIdx, if_pos hi]; omega
      by_cases hol : out.length < order.length
      · obtain ⟨o, ho1⟩ := get_of hol
        have ho2 := ho o (List.mem_of_getElem? ho1)
        have hm1 : 0 ≤ o % (fr.length : Int) := Int.emod_nonneg _ (by omega)
        have hm2 : o % (fr.length : Int) < fr.length := Int.emod_lt_of_pos _ (by omega)
        obtain ⟨y, hy⟩ := get_of (l := fr) (i := (o % (fr.length : Int)).toNat) (by omega)
        have hat : y = (i : Int) := by rw [atF, ho1] at hat; simp only at hat; rw [hy] at hat; exact hat
        subst hat
        repeat' (first | refine Sp.h ?_ | refine Lk.r rfl ?_ | refine Rf.mk rfl ?_ | (apply Bd.t; (focus (first | assumption | omega | rfl))) | (apply Bd.f; (focus (first | assumption | omega | exact Bool.false_ne_true))) | refine OpK.r rfl ?_ | (apply Om.mk; (focus first | omega | (simp <;> omega))) | (refine Im.mk ?_; intro _) | (refine All.mk ?_; intro _) | (apply TkA.r; (focus (repeat (first | exact Take.here | apply Take.there)))) | (apply Ix.q; (focus exact rfl); (focus assumption)) | (apply Ix.r; (focus assumption); (focus omega)) | (apply At.r; (focus assumption)) | refine Ce.l rfl ?_ | refine Ce.r ?_ | refine Ch.l ⟨rfl, rfl⟩ ?_ | (apply Fk.r; (focus (repeat (first | exact FillA.nil | (apply FillA.agg; (focus rfl); (focus rfl); (focus (repeat (first | exact SetAs.z | (apply SetAs.c; (focus (repeat (first | assumption | exact SetA.z | apply SetA.s)))))))) | (apply FillA.one; (focus rfl); (focus infer_instance); (focus (repeat (first | assumption | exact SetA.z | apply SetA.s)))))))) | refine Rf.mk ⟨rfl, rfl⟩ ?_ | refine Rf.mk ⟨rfl, rfl, rfl⟩ ?_ | (apply Jx.r; (focus exact rfl); (focus first | omega | (simp; done) | (simp; omega))) | refine Mp.same ?_ | (apply Mp.lit; (focus repeat (first | exact MpL.nil | (apply MpL.cons; (focus rfl)) | (apply MpL.inv; (focus repeat (first | apply LN.cons | exact LN.nil)); (focus infer_instance))))) | (apply CA.draw; (focus rfl); (focus kernel_rfl); (focus kernel_rfl); (focus repeat' (first | apply ON.one | exact ON.done | exact ON.none | apply ON.alt)); (focus rfl)) | (apply Ov.n; (focus first | omega | (simp <;> omega))) | (apply Cvk.i64; (focus rfl); (focus omega)) | fail)
        all_goals rw [her]
        all_goals exact PA.lp (_, _, out ++ [e], rest.eraseIdx i) ⟨by (repeat (first | exact trivial | refine ⟨rfl, ?_⟩)), by (repeat (first | exact Subl.nil | refine Subl.cons (by (repeat (first | exact Take.here | apply Take.there))) ?_))⟩ ⟨⟨hr, by simp only [List.length_append, List.length_cons, List.length_nil]; omega⟩, by simp only; omega⟩
      · have ho1 : order[out.length]? = none := List.getElem?_eq_none (by omega)
        have hat : f0 = (i : Int) := by rw [atF, ho1] at hat; simp only at hat; rw [hf0] at hat; exact hat
        subst hat
        repeat' (first | refine Sp.h ?_ | refine Lk.r rfl ?_ | refine Rf.mk rfl ?_ | (apply Bd.f; (focus (first | assumption | omega | exact Bool.false_ne_true))) | refine OpK.r rfl ?_ | (apply Om.mk; (focus first | omega | (simp <;> omega))) | (refine Im.mk ?_; intro _) | (refine All.mk ?_; intro _) | (apply TkA.r; (focus (repeat (first | exact Take.here | apply Take.there)))) | (apply Ix.q; (focus exact rfl); (focus assumption)) | (apply At.r; (focus assumption)) | refine Ce.l rfl ?_ | refine Ce.r ?_ | refine Ch.l ⟨rfl, rfl⟩ ?_ | (apply Fk.r; (focus (repeat (first | exact FillA.nil | (apply FillA.agg; (focus rfl); (focus rfl); (focus (repeat (first | exact SetAs.z | (apply SetAs.c; (focus (repeat (first | assumption | exact SetA.z | apply SetA.s)))))))) | (apply FillA.one; (focus rfl); (focus infer_instance); (focus (repeat (first | assumption | exact SetA.z | apply SetA.s)))))))) | refine Rf.mk ⟨rfl, rfl⟩ ?_ | refine Rf.mk ⟨rfl, rfl, rfl⟩ ?_ | (apply Jx.r; (focus exact rfl); (focus first | omega | (simp; done) | (simp; omega))) | refine Mp.same ?_ | (apply Mp.lit; (focus repeat (first | exact MpL.nil | (apply MpL.cons; (focus rfl)) | (apply MpL.inv; (focus repeat (first | apply LN.cons | exact LN.nil)); (focus infer_instance))))) | (apply CA.draw; (focus rfl); (focus kernel_rfl); (focus kernel_rfl); (focus repeat' (first | apply ON.one | exact ON.done | exact ON.none | apply ON.alt)); (focus rfl)) | (apply Ov.n; (focus first | omega | (simp <;> omega))) | fail)
        all_goals rw [her]
        all_goals exact PA.lp (_, _, out ++ [e], rest.eraseIdx i) ⟨by (repeat (first | exact trivial | refine ⟨rfl, ?_⟩)), by (repeat (first | exact Subl.nil | refine Subl.cons (by (repeat (first | exact Take.here | apply Take.there))) ?_))⟩ ⟨⟨hr, by simp only [List.length_append, List.length_cons, List.length_nil]; omega⟩, by simp only; omega⟩
end Go.Proofs.YtmllihbhphnolaaGreat
namespace Go.Proofs.YtmllihbhphnolaaGreat
open Go Go.CF
set_option maxRecDepth 20000
structure SuitS (m : ModS) (ld : List Int) (l : List EvS) : Prop where
  e : SuitE m l
  ne : 0 < l.length
  ln : ld.length = strF m
  ld : ∀ x ∈ ld, -1000 ≤ x ∧ x ≤ 1000
  sm : ∀ a ∈ m.acts, ∀ p ∈ a.eff.delta, -1000 ≤ p.2 ∧ p.2 ≤ 1000
theorem SuitS.smd {m : ModS} {ld : List Int} {l : List EvS} (h : SuitS m ld l) : SmD m := fun a ha => ⟨(h.e.1.eff a ha).dl, h.sm a ha⟩
set_option maxHeartbeats 8000000 in
theorem suits35_c (m : ModS) (ld : List Int) (l : List EvS) : CallF Tryz.prog 14 [mdl m, ints ld, evs l] (SuitS m ld l) := by
  have hfe := few32_c m l
  refine CallA.of pg ord14 Tryz.func14 rfl Tryz.ntmps14 Tryz.results14 rfl fun h0 G0 O0 => ?_
  repeat' (first | refine Sp.h ?_ | refine Lk.r rfl ?_ | refine Rf.mk rfl ?_ | (refine All.mk ?_; intro _) | (apply TkB.r; (focus (repeat (first | exact Take.here | apply Take.there)))) | refine Ch.l ⟨rfl, rfl⟩ ?_ | fail)
  rename_i b3
  (apply Cl.use (hfe); (focus repeat' (first | exact Lend.nil | apply Lend.keep | fail)); (focus (repeat (first | exact Takes.nil | (apply Takes.cons; (focus (repeat (first | exact Take.here | apply Take.there))))))); (focus rfl))
  rintro _ _ ⟨b, rfl, rfl, h1⟩
  cases b
  · repeat' (first | refine Sp.h ?_ | refine Lk.r rfl ?_ | refine Rf.mk rfl ?_ | (apply Bd.f; (focus (first | assumption | omega | exact Bool.false_ne_true))) | (apply Nm.r; (focus repeat (first | apply LN.cons | exact LN.nil))) | fail)
    exact ⟨_, _, .one (.same (.nil (by (repeat (first | exact Subl.nil | refine Subl.cons (by (repeat (first | exact Take.here | apply Take.there))) ?_))))), _, rfl, rfl, fun h => by cases h⟩
  obtain ⟨hm, hf⟩ := h1 rfl
  have hcl := closed_p l
  have hst := strict32_p m hm.lay
  have hmg := merged32_p m hm.lay
  by_cases hl0 : l.length = 0
  · repeat' (first | refine Sp.h ?_ | refine Lk.r rfl ?_ | refine Rf.mk rfl ?_ | (apply Bd.t; (focus (first | assumption | omega | rfl))) | (refine Im.mk ?_; intro _) | (apply Nm.r; (focus repeat (first | apply LN.cons | exact LN.nil))) | fail)
    exact ⟨_, _, .one (.same (.nil (by (repeat (first | exact Subl.nil | refine Subl.cons (by (repeat (first | exact Take.here | apply Take.there))) ?_))))), _, rfl, rfl, fun h => by cases h⟩
  by_cases hc : ClosedE l
  rotate_left
  · rw [decide_eq_false hc] at hcl
    repeat' (first | refine Sp.h ?_ | refine Lk.r rfl ?_ | refine Rf.mk rfl ?_ | (apply Bd.t; (focus (first | assumption | omega | rfl))) | (apply Bd.f; (focus (first | assumption | omega | exact Bool.false_ne_true))) | (refine Im.mk ?_; intro _) | (apply Nm.r; (focus repeat (first | apply LN.cons | exact LN.nil))) | fail | (apply Cl.p (hcl); (focus ((repeat' (first | exact Lend.nil | apply Lend.keep | fail)); done))) | (apply Cl.p (hst); (focus ((repeat' (first | exact Lend.nil | apply Lend.keep | fail)); done))))
    exact ⟨_, _, .one (.same (.nil (by (repeat (first | exact Subl.nil | refine Subl.cons (by (repeat (first | exact Take.here | apply Take.there))) ?_))))), _, rfl, rfl, fun h => by cases h⟩
  rw [decide_eq_true hc] at hcl
  by_cases hln : ld.length = strF m
  rotate_left
  · repeat' (first | refine Sp.h ?_ | refine Lk.r rfl ?_ | refine Rf.mk rfl ?_ | (apply Bd.t; (focus (first | assumption | omega | rfl))) | (apply Bd.f; (focus (first | assumption | omega | exact Bool.false_ne_true))) | (refine Im.mk ?_; intro _) | (apply TkB.r; (focus (repeat (first | exact Take.here | apply Take.there)))) | refine Ch.l ⟨rfl, rfl⟩ ?_ | (apply Nm.r; (focus repeat (first | apply LN.cons | exact LN.nil))) | fail | (apply Cl.p (hcl); (focus ((repeat' (first | exact Lend.nil | apply Lend.keep | fail)); done))) | (apply Cl.p (hst); (focus ((repeat' (first | exact Lend.nil | apply Lend.keep | fail)); done))))
    exact ⟨_, _, .one (.same (.nil (by (repeat (first | exact Subl.nil | refine Subl.cons (by (repeat (first | exact Take.here | apply Take.there))) ?_))))), _, rfl, rfl, fun h => by cases h⟩
  repeat' (first | refine Sp.h ?_ | refine Lk.r rfl ?_ | refine Rf.mk rfl ?_ | (apply Bd.t; (focus (first | assumption | omega | rfl))) | (apply Bd.f; (focus (first | assumption | omega | exact Bool.false_ne_true))) | (refine Im.mk ?_; intro _) | (apply TkB.r; (focus (repeat (first | exact Take.here | apply Take.there)))) | refine Ch.l ⟨rfl, rfl⟩ ?_ | fail | (apply Cl.p (hcl); (focus ((repeat' (first | exact Lend.nil | apply Lend.keep | fail)); done))) | (apply Cl.p (hst); (focus ((repeat' (first | exact Lend.nil | apply Lend.keep | fail)); done))))
  refine CA.loop (fun i : Nat => ⟨[(2, evs l), (3, pm b3), (40, ints ld), (41, it (ld.length : Nat)), (42, it i)], [mR b3 m]⟩) (fun i => i ≤ ld.length ∧ ∀ x ∈ ld.take i, -1000 ≤ x ∧ x ≤ 1000) (fun i => ld.length - i) 0 ⟨by (repeat (first | exact trivial | refine ⟨rfl, ?_⟩)), by (repeat (first | exact Subl.nil | refine Subl.cons (by (repeat (first | exact Take.here | apply Take.there))) ?_))⟩ ⟨Nat.zero_le _, by simp⟩ ?_
  rintro i ⟨hi, ha⟩
  by_cases hin : i < ld.length
  · obtain ⟨x, hx⟩ := get_of hin
    repeat' (first | refine Sp.h ?_ | refine Lk.r rfl ?_ | refine Rf.mk rfl ?_ | (apply Bd.t; (focus (first | assumption | omega | rfl))) | (apply Bd.f; (focus (first | assumption | omega | exact Bool.false_ne_true))) | (refine Bd.mk ?_ ?_ <;> intro _) | (apply Ix.q; (focus exact rfl); (focus assumption)) | (apply Nm.r; (focus repeat (first | apply LN.cons | exact LN.nil))) | (apply Ov.n; (focus first | omega | (simp <;> omega))) | fail)
    all_goals first
      | exact ⟨_, _, .one (.same (.nil (by (repeat (first | exact Subl.nil | refine Subl.cons (by (repeat (first | exact Take.here | apply Take.there))) ?_))))), _, rfl, rfl, fun h => by cases h⟩
      | exact PA.lp (i + 1) ⟨by (repeat (first | exact trivial | refine ⟨rfl, ?_⟩)), by (repeat (first | exact Subl.nil | refine Subl.cons (by (repeat (first | exact Take.here | apply Take.there))) ?_))⟩ ⟨⟨hin, all_succ hx ha ⟨by omega, by omega⟩⟩, by omega⟩
  have hie : i = ld.length := by omega
  subst hie
  rw [List.take_length] at ha
  repeat' (first | refine Sp.h ?_ | refine Lk.r rfl ?_ | refine Rf.mk rfl ?_ | (apply Bd.f; (focus (first | assumption | omega | exact Bool.false_ne_true))) | (refine Im.mk ?_; intro _) | fail)
  refine CA.loop (fun i : Nat => ⟨[(2, evs l), (3, pm b3), (53, evs l), (54, it (l.length : Nat)), (55, it i)], [mR b3 m]⟩) (fun i => i ≤ l.length ∧ ∀ e ∈ l.take i, EvV m (n0 l : Nat) e) (fun i => l.length - i) 0 ⟨by (repeat (first | exact trivial | refine ⟨rfl, ?_⟩)), by (repeat (first | exact Subl.nil | refine Subl.cons (by (repeat (first | exact Take.here | apply Take.there))) ?_))⟩ ⟨Nat.zero_le _, by simp⟩ ?_
  rintro i ⟨hi, hev⟩
  by_cases hin : i < l.length
  · obtain ⟨e, he⟩ := get_of hin
    obtain ⟨d, hd⟩ := get_of (l := l) (i := 0) (by omega)
    have hn : n0 l = d.past.length := by rw [n0, hd]; rfl
    have hvv := evalid_p m (d.past.length : Nat) e
    by_cases hv : EvV m (d.past.length : Nat) e
    · repeat' (first | refine Sp.h ?_ | refine Lk.r rfl ?_ | refine Rf.mk rfl ?_ | (apply Bd.t; (focus (first | assumption | omega | rfl))) | refine OpK.r rfl ?_ | (refine Im.mk ?_; intro _) | (refine All.mk ?_; intro _) | (apply TkB.r; (focus (repeat (first | exact Take.here | apply Take.there)))) | (apply Ix.q; (focus exact rfl); (focus assumption)) | refine Ch.l ⟨rfl, rfl⟩ ?_ | (apply SetAsk.r; (focus (repeat (first | exact SetAs.z | (apply SetAs.c; (focus (repeat (first | assumption | exact SetA.z | apply SetA.s)))))))) | (apply Nm.r; (focus repeat (first | apply LN.cons | exact LN.nil))) | (apply CA.draw; (focus rfl); (focus kernel_rfl); (focus kernel_rfl); (focus repeat' (first | apply ON.one | exact ON.done | exact ON.none | apply ON.alt)); (focus rfl)) | (apply Ov.n; (focus first | omega | (simp <;> omega))) | fail | (apply Cl.p (hvv); (focus repeat' (first | exact Lend.nil | apply Lend.keep | fail))))
      all_goals exact PA.lp (i + 1) ⟨by (repeat (first | exact trivial | refine ⟨rfl, ?_⟩)), by (repeat (first | exact Subl.nil | refine Subl.cons (by (repeat (first | exact Take.here | apply Take.there))) ?_))⟩ ⟨⟨hin, all_succ he hev (by rw [hn]; exact hv)⟩, by omega⟩
    · repeat' (first | refine Sp.h ?_ | refine Lk.r rfl ?_ | refine Rf.mk rfl ?_ | (apply Bd.t; (focus (first | assumption | omega | rfl))) | (apply Bd.f; (focus (first | assumption | omega | exact Bool.false_ne_true))) | refine OpK.r rfl ?_ | (refine Im.mk ?_; intro _) | (refine All.mk ?_; intro _) | (apply TkB.r; (focus (repeat (first | exact Take.here | apply Take.there)))) | (apply Ix.q; (focus exact rfl); (focus assumption)) | refine Ch.l ⟨rfl, rfl⟩ ?_ | (apply SetAsk.r; (focus (repeat (first | exact SetAs.z | (apply SetAs.c; (focus (repeat (first | assumption | exact SetA.z | apply SetA.s)))))))) | (apply Nm.r; (focus repeat (first | apply LN.cons | exact LN.nil))) | (apply CA.draw; (focus rfl); (focus kernel_rfl); (focus kernel_rfl); (focus repeat' (first | apply ON.one | exact ON.done | exact ON.none | apply ON.alt)); (focus rfl)) | fail | (apply Cl.p (hvv); (focus repeat' (first | exact Lend.nil | apply Lend.keep | fail))))
      all_goals exact ⟨_, _, .one (.same (.nil (by (repeat (first | exact Subl.nil | refine Subl.cons (by (repeat (first | exact Take.here | apply Take.there))) ?_))))), _, rfl, rfl, fun h => by cases h⟩
  have hie : i = l.length := by omega
  subst hie
  rw [List.take_length] at hev
  repeat' (first | refine Sp.h ?_ | refine Lk.r rfl ?_ | refine Rf.mk rfl ?_ | (apply Bd.f; (focus (first | assumption | omega | exact Bool.false_ne_true))) | (refine Im.mk ?_; intro _) | (apply TkB.r; (focus (repeat (first | exact Take.here | apply Take.there)))) | fail)
  refine CA.loop (fun i : Nat => ⟨[(3, pm b3), (70, .sl 5 m.acts actC), (71, it (m.acts.length : Nat)), (72, it i)], [mR b3 m]⟩) (fun i => i ≤ m.acts.length ∧ ∀ a ∈ m.acts.take i, (∀ u ∈ a.eff.updates, ∀ (i : Nat) t, u.2.1 = i → (mrgF m)[i]? = some t → FitO t u) ∧ ∀ p ∈ a.eff.delta, -1000 ≤ p.2 ∧ p.2 ≤ 1000) (fun i => m.acts.length - i) 0 ⟨by (repeat (first | exact trivial | refine ⟨rfl, ?_⟩)), by (repeat (first | exact Subl.nil | refine Subl.cons (by (repeat (first | exact Take.here | apply Take.there))) ?_))⟩ ⟨Nat.zero_le _, by simp⟩ ?_
  rintro i ⟨hi, hac⟩
  by_cases hin : i < m.acts.length
  · obtain ⟨a, hx⟩ := get_of hin
    have heo := hm.eff a (List.mem_of_getElem? hx)
    repeat' (first | refine Sp.h ?_ | refine Lk.r rfl ?_ | refine Rf.mk rfl ?_ | (apply Bd.t; (focus (first | assumption | omega | rfl))) | (refine Im.mk ?_; intro _) | (refine All.mk ?_; intro _) | (apply TkB.r; (focus (repeat (first | exact Take.here | apply Take.there)))) | (apply Ix.q; (focus exact rfl); (focus assumption)) | refine Ch.l ⟨rfl, rfl⟩ ?_ | (apply SetAsk.r; (focus (repeat (first | exact SetAs.z | (apply SetAs.c; (focus (repeat (first | assumption | exact SetA.z | apply SetA.s)))))))) | (apply Nm.r; (focus repeat (first | apply LN.cons | exact LN.nil))) | fail)
    rename_i b12 _
    refine CA.loop (fun k : Nat => ⟨[(3, pm b3), (12, pm b12), (70, .sl 5 m.acts actC), (71, it (m.acts.length : Nat)), (72, it i), (78, .sl 3 a.eff.updates updC), (79, it (a.eff.updates.length : Nat)), (80, it k)], [mR b3 m, blkR b12 151 (actC a)]⟩) (fun k => k ≤ a.eff.updates.length ∧ ∀ u ∈ a.eff.updates.take k, ∀ (i : Nat) t, u.2.1 = i → (mrgF m)[i]? = some t → FitO t u) (fun k => a.eff.updates.length - k) 0 ⟨by (repeat (first | exact trivial | refine ⟨rfl, ?_⟩)), by (repeat (first | exact Subl.nil | refine Subl.cons (by (repeat (first | exact Take.here | apply Take.there))) ?_))⟩ ⟨Nat.zero_le _, by simp⟩ ?_
    rintro k ⟨hk, hb⟩
    by_cases hkn : k < a.eff.updates.length
    · obtain ⟨u, hu⟩ := get_of hkn
      obtain ⟨u1, u2⟩ := heo.u u (List.mem_of_getElem? hu)
      obtain ⟨t, ht⟩ := get_of (l := mrgF m) (i := u.2.1.toNat) (by omega)
      obtain ⟨uk, uc, uv⟩ := u
      simp only at u1 u2 ht
      (repeat' (first | (show CA _ _ (Code.region 21 _ _) _ _; apply Stopped.out) | refine Sp.h ?_ | refine Lk.r rfl ?_ | refine Rf.mk rfl ?_ | (apply Bd.t; (focus (first | assumption | omega | rfl))) | (refine All.mk ?_; intro _) | (apply TkB.r; (focus (repeat (first | exact Take.here | apply Take.there)))) | (apply Ix.q; (focus exact rfl); (focus assumption)) | refine Ch.l ⟨rfl, rfl⟩ ?_ | (apply SetAsk.r; (focus (repeat (first | exact SetAs.z | (apply SetAs.c; (focus (repeat (first | assumption | exact SetA.z | apply SetA.s)))))))) | (apply Nm.r; (focus repeat (first | apply LN.cons | exact LN.nil))) | fail)); any_goals apply Stopped.mk
      rename_i b14
      refine CA.cut (fun b15 : Nat => ⟨[(3, pm b3), (12, pm b12), (14, pm b14), (15, pm b15), (70, .sl 5 m.acts actC), (71, it (m.acts.length : Nat)), (72, it i), (78, .sl 3 a.eff.updates updC), (79, it (a.eff.updates.length : Nat)), (80, it k)], [mR b3 m, blkR b12 151 (actC a), blkR b14 153 (updC (uk, uc, uv)), blkR b15 157 (tblC t)]⟩) (fun _ => True) ?_ ?_
      · repeat' (first | refine Sp.h ?_ | refine Lk.r rfl ?_ | refine Rf.mk rfl ?_ | refine OpK.r rfl ?_ | (refine All.mk ?_; intro _) | (apply TkB.r; (focus (repeat (first | exact Take.here | apply Take.there)))) | (apply Ix.r; (focus assumption); (focus omega)) | refine Ch.l ⟨rfl, rfl⟩ ?_ | (apply SetAsk.r; (focus (repeat (first | exact SetAs.z | (apply SetAs.c; (focus (repeat (first | assumption | exact SetA.z | apply SetA.s)))))))) | (apply Nm.r; (focus repeat (first | apply LN.cons | exact LN.nil))) | (apply CA.draw; (focus rfl); (focus kernel_rfl); (focus kernel_rfl); (focus repeat' (first | apply ON.one | exact ON.done | exact ON.none | apply ON.alt)); (focus rfl)) | exact trivial | apply RA'.both | fail | (apply Cl.p (hmg); (focus repeat' (first | exact Lend.nil | apply Lend.keep | fail))))
        all_goals exact PA.lp _ ⟨by (repeat (first | exact trivial | refine ⟨rfl, ?_⟩)), by (repeat (first | exact Subl.nil | refine Subl.cons (by (repeat (first | exact Take.here | apply Take.there))) ?_))⟩ trivial
      intro b15 _
      simp only
      (repeat' (first | (show CA _ _ (Code.region 22 _ _) _ _; apply Stopped.out) | refine Sp.h ?_ | fail)); any_goals apply Stopped.mk
      refine CA.cut (fun b : Bool => ⟨[(3, pm b3), (12, pm b12), (14, pm b14), (15, pm b15), (16, bl b), (70, .sl 5 m.acts actC), (71, it (m.acts.length : Nat)), (72, it i), (78, .sl 3 a.eff.updates updC), (79, it (a.eff.updates.length : Nat)), (80, it k)], [mR b3 m, blkR b12 151 (actC a), blkR b14 153 (updC (uk, uc, uv)), blkR b15 157 (tblC t)]⟩) (fun b => b = true ↔ isSt t.kind) ?_ ?_
      · repeat' (first | refine Sp.h ?_ | refine Lk.r rfl ?_ | refine Rf.mk rfl ?_ | (apply Bd.t; (focus (first | assumption | omega | rfl))) | (apply Bd.f; (focus (first | assumption | omega | exact Bool.false_ne_true))) | (refine Bd.mk ?_ ?_ <;> intro _) | (apply TkB.r; (focus (repeat (first | exact Take.here | apply Take.there)))) | fail)
        all_goals exact PA.lp _ ⟨by (repeat (first | exact trivial | refine ⟨rfl, ?_⟩)), by (repeat (first | exact Subl.nil | refine Subl.cons (by (repeat (first | exact Take.here | apply Take.there))) ?_))⟩ (by unfold isSt; simp; omega)
      rintro b hb1
      simp only
      (repeat' (first | (show CA _ _ (Code.region 23 _ _) _ _; apply Stopped.out) | refine Sp.h ?_ | fail)); any_goals apply Stopped.mk
      refine CA.cut (fun c : Bool => ⟨[(3, pm b3), (12, pm b12), (70, .sl 5 m.acts actC), (71, it (m.acts.length : Nat)), (72, it i), (78, .sl 3 a.eff.updates updC), (79, it (a.eff.updates.length : Nat)), (80, it k), (127, bl c)], [mR b3 m, blkR b12 151 (actC a)]⟩) (fun c => c = false → FitO t (uk, uc, uv)) ?_ ?_
      · have hf : FitO t (uk, uc, uv) ↔ (b = true ↔ uk = 0 ∨ uk = 1) ∧ (b ≠ true → t.lo ≤ uv ∧ uv ≤ t.hi) := by unfold FitO; simp only; rw [← hb1]
        cases b
        all_goals repeat' (first | refine Sp.h ?_ | refine Lk.r rfl ?_ | refine Rf.mk rfl ?_ | (apply Bd.t; (focus (first | assumption | omega | rfl))) | (apply Bd.f; (focus (first | assumption | omega | exact Bool.false_ne_true))) | (refine Bd.mk ?_ ?_ <;> intro _) | (apply TkB.r; (focus (repeat (first | exact Take.here | apply Take.there)))) | fail)
        all_goals exact PA.lp _ ⟨by (repeat (first | exact trivial | refine ⟨rfl, ?_⟩)), by (repeat (first | exact Subl.nil | refine Subl.cons (by (repeat (first | exact Take.here | apply Take.there))) ?_))⟩ (by rw [hf]; first | (simp; done) | (simp; omega) | (simp at *; omega))
      rintro c hc
      simp only
      cases c
      · repeat' (first | refine Sp.h ?_ | refine Lk.r rfl ?_ | refine Rf.mk rfl ?_ | (apply Ov.n; (focus first | omega | (simp <;> omega))) | fail)
        refine PA.lp (k + 1) ⟨by (repeat (first | exact trivial | refine ⟨rfl, ?_⟩)), by (repeat (first | exact Subl.nil | refine Subl.cons (by (repeat (first | exact Take.here | apply Take.there))) ?_))⟩ ⟨⟨hkn, all_succ hu hb fun j t' hj ht' => ?_⟩, by omega⟩
        have : uc.toNat = j := by simp only at hj; omega
        rw [this] at ht
        rw [ht] at ht'; cases ht'
        exact hc rfl
      · repeat' (first | refine Sp.h ?_ | refine Lk.r rfl ?_ | refine Rf.mk rfl ?_ | (apply Nm.r; (focus repeat (first | apply LN.cons | exact LN.nil))) | fail)
        exact ⟨_, _, .one (.same (.nil (by (repeat (first | exact Subl.nil | refine Subl.cons (by (repeat (first | exact Take.here | apply Take.there))) ?_))))), _, rfl, rfl, fun h => by cases h⟩
    have hke : k = a.eff.updates.length := by omega
    subst hke
    rw [List.take_length] at hb
    repeat' (first | refine Sp.h ?_ | refine Lk.r rfl ?_ | refine Rf.mk rfl ?_ | (apply Bd.f; (focus (first | assumption | omega | exact Bool.false_ne_true))) | (refine Im.mk ?_; intro _) | (apply TkB.r; (focus (repeat (first | exact Take.here | apply Take.there)))) | fail)
    refine CA.loop (fun k : Nat => ⟨[(3, pm b3), (70, .sl 5 m.acts actC), (71, it (m.acts.length : Nat)), (72, it i), (131, terms a.eff.delta), (132, it (a.eff.delta.length : Nat)), (133, it k)], [mR b3 m]⟩) (fun k => k ≤ a.eff.delta.length ∧ ∀ p ∈ a.eff.delta.take k, -1000 ≤ p.2 ∧ p.2 ≤ 1000) (fun k => a.eff.delta.length - k) 0 ⟨by (repeat (first | exact trivial | refine ⟨rfl, ?_⟩)), by (repeat (first | exact Subl.nil | refine Subl.cons (by (repeat (first | exact Take.here | apply Take.there))) ?_))⟩ ⟨Nat.zero_le _, by simp⟩ ?_
    rintro k ⟨hk2, hd⟩
    by_cases hkn : k < a.eff.delta.length
    · obtain ⟨p, hp⟩ := get_of hkn
      repeat' (first | refine Sp.h ?_ | refine Lk.r rfl ?_ | refine Rf.mk rfl ?_ | (apply Bd.t; (focus (first | assumption | omega | rfl))) | (apply Bd.f; (focus (first | assumption | omega | exact Bool.false_ne_true))) | (refine Bd.mk ?_ ?_ <;> intro _) | (refine All.mk ?_; intro _) | (apply TkB.r; (focus (repeat (first | exact Take.here | apply Take.there)))) | (apply Ix.q; (focus exact rfl); (focus assumption)) | refine Ch.l ⟨rfl, rfl⟩ ?_ | (apply SetAsk.r; (focus (repeat (first | exact SetAs.z | (apply SetAs.c; (focus (repeat (first | assumption | exact SetA.z | apply SetA.s)))))))) | (apply Nm.r; (focus repeat (first | apply LN.cons | exact LN.nil))) | (apply Ov.n; (focus first | omega | (simp <;> omega))) | fail)
      all_goals first
        | exact ⟨_, _, .one (.same (.nil (by (repeat (first | exact Subl.nil | refine Subl.cons (by (repeat (first | exact Take.here | apply Take.there))) ?_))))), _, rfl, rfl, fun h => by cases h⟩
        | exact PA.lp (k + 1) ⟨by (repeat (first | exact trivial | refine ⟨rfl, ?_⟩)), by (repeat (first | exact Subl.nil | refine Subl.cons (by (repeat (first | exact Take.here | apply Take.there))) ?_))⟩ ⟨⟨hkn, all_succ hp hd ⟨by omega, by omega⟩⟩, by omega⟩
    have hke : k = a.eff.delta.length := by omega
    subst hke
    rw [List.take_length] at hd
    repeat' (first | refine Sp.h ?_ | refine Lk.r rfl ?_ | refine Rf.mk rfl ?_ | (apply Bd.f; (focus (first | assumption | omega | exact Bool.false_ne_true))) | (apply Ov.n; (focus first | omega | (simp <;> omega))) | fail)
    exact PA.lp (i + 1) ⟨by (repeat (first | exact trivial | refine ⟨rfl, ?_⟩)), by (repeat (first | exact Subl.nil | refine Subl.cons (by (repeat (first | exact Take.here | apply Take.there))) ?_))⟩ ⟨⟨hin, all_succ hx hac ⟨hb, hd⟩⟩, by omega⟩
  have hie : i = m.acts.length := by omega
  subst hie
  rw [List.take_length] at hac
  repeat' (first | refine Sp.h ?_ | refine Lk.r rfl ?_ | refine Rf.mk rfl ?_ | (apply Bd.f; (focus (first | assumption | omega | exact Bool.false_ne_true))) | (apply Nm.r; (focus repeat (first | apply LN.cons | exact LN.nil))) | fail)
  exact ⟨_, _, .one (.same (.nil (by (repeat (first | exact Subl.nil | refine Subl.cons (by (repeat (first | exact Take.here | apply Take.there))) ?_))))), _, rfl, rfl, fun _ => ⟨⟨hm, hf, hc, fun a h => (hac a h).1, hev⟩, by omega, hln, ha, fun a h => (hac a h).2⟩⟩
end Go.Proofs.YtmllihbhphnolaaGreat
namespace Go.Proofs.YtmllihbhphnolaaGreat
open Go Go.CF
set_option maxRecDepth 20000
/-- What a store has behind events. -/
noncomputable def stN (m : ModS) (n : Nat) (ld : List Int) (X : List EvS) : NowS := ⟨clkE n X, X.foldl (fun t e => max t e.time) 0, X.foldl (addE m) ld, X.foldl (mrg1 m) (List.replicate (mrgF m).length mg0), X.foldl plE []⟩
theorem deliver_st {m : ModS} {evl : List EvS} {w : NowS} {e : EvS} (h : (deliverF m evl w e).1 = 0) : (deliverF m evl w e).2 = ⟨cntF w.clock e, max w.time e.time, addE m w.state e, (applyF m w.merged e).2, plE w.places e⟩ := by
  unfold deliverF at h ⊢
  repeat' split
  all_goals first
    | rfl
    | (exfalso; simp_all; done)
theorem deliver_ok' {m : ModS} {evl : List EvS} {w : NowS} {e : EvS} (h : (deliverF m evl w e).1 = 0) : ValL (mrgF m) w.merged ∧ EvV m (w.clock.length : Nat) e ∧ (applyF m w.merged e).1 = 0 := by
  have key : EvV m (w.clock.length : Nat) e ∧ (applyF m w.merged e).1 = 0 := by
    unfold deliverF at h
    repeat' split at h
    all_goals first
      | (exfalso; simp at h; done)
      | (rename_i h1 _ _ _ _ h6; exact ⟨Classical.not_not.1 h1, Classical.not_not.1 h6⟩)
      | (rename_i h6; exact absurd h h6)
  exact ⟨(applyF_ok key.2).1, key⟩
theorem stN_snoc (m : ModS) (n : Nat) (ld : List Int) (X : List EvS) (e : EvS) : stN m n ld (X ++ [e]) = ⟨cntF (stN m n ld X).clock e, max (stN m n ld X).time e.time, addE m (stN m n ld X).state e, (applyF m (stN m n ld X).merged e).2, plE (stN m n ld X).places e⟩ := by
  simp only [stN, clkE, List.foldl_append, List.foldl_cons, List.foldl_nil, cntF, mrg1]
theorem plL_len (l : List EvS) : (plL l).length ≤ l.length := by unfold plL; rw [List.length_map]; exact List.length_filter_le _ _
theorem foldE_len (m : ModS) (X : List EvS) : ∀ ld : List Int, (X.foldl (addE m) ld).length = ld.length := by
  induction X with
  | nil => exact fun _ => rfl
  | cons e X ih => intro ld; rw [List.foldl_cons, ih, addE_len]
theorem stN_ok {m : ModS} {l X : List EvS} {ld : List Int} (hs : SuitS m ld l) (hX : ∀ e ∈ X, e ∈ l) (hl : X.length ≤ 1000) : NowOK m (stN m (n0 l) ld X) := by
  obtain ⟨e, he⟩ := get_of (l := l) (i := 0) hs.ne
  have hr := n0_rng hs.e.2.2.1 (List.mem_of_getElem? he)
  refine ⟨clk_valC hs.e.2.2.1 hX hr, by simp only [stN, foldE_len]; exact hs.ln, ?_, ?_⟩
  · simp only [stN, places_srt]; exact (srtD_si _).1
  · simp only [stN, places_srt]
    have := srtD_len (plL X); have := plL_len X
    omega
theorem fill_sto {m : ModS} {l X : List EvS} {ld : List Int} (hs : SuitS m ld l) (hl : X.length ≤ 100) (hX : ExtO l X) : ∀ i, i ≤ X.length → StoA m l ld (X.take i) (stN m (n0 l) ld (X.take i)) ∧ ∀ e, X[i]? = some e → deliverF m (X.take i) (stN m (n0 l) ld (X.take i)) e = (0, stN m (n0 l) ld (X.take (i + 1))) := by
  have step : ∀ i e, X[i]? = some e → StoA m l ld (X.take i) (stN m (n0 l) ld (X.take i)) → deliverF m (X.take i) (stN m (n0 l) ld (X.take i)) e = (0, stN m (n0 l) ld (X.take (i + 1))) ∧ StoA m l ld (X.take (i + 1)) (stN m (n0 l) ld (X.take (i + 1))) := by
    intro i e he hst
    have hil := (List.getElem?_eq_some_iff.1 he).1
    have hel := hX.sub e (List.mem_of_getElem? he)
    obtain ⟨h1, h2⟩ := hX.nxt i e he
    obtain ⟨w', d1, d2⟩ := deliver_ok hs.e (by have := hs.e.2.1.1; omega) hs.smd hs.ld hst (by rw [List.length_take]; omega) (hX.cau i) hel h1 h2
    have hsu : X.take (i + 1) = X.take i ++ [e] := by rw [List.take_add_one, he]; rfl
    have hw : w' = stN m (n0 l) ld (X.take (i + 1)) := by
      have := deliver_st (m := m) (evl := X.take i) (w := stN m (n0 l) ld (X.take i)) (e := e) (by rw [d1])
      rw [d1] at this
      rw [hsu, stN_snoc]
      exact this
    rw [hw] at d1 d2
    rw [← hsu] at d2
    exact ⟨d1, d2⟩
  intro i
  induction i with
  | zero =>
    intro _
    have h0 : StoA m l ld (X.take 0) (stN m (n0 l) ld (X.take 0)) := sto0 m l ld
    exact ⟨h0, fun e he => (step 0 e he h0).1⟩
  | succ i ih =>
    intro hi
    obtain ⟨e, he⟩ := get_of (l := X) (i := i) (by omega)
    have h1 := (step i e he (ih (by omega)).1).2
    exact ⟨h1, fun d hd => (step (i + 1) d hd h1).1⟩
theorem insS_ld {ld : List Int} (h : ∀ x ∈ ld, -1000 ≤ x ∧ x ≤ 1000) : insS ld := fun x hx => by have := h x hx; omega
set_option maxHeartbeats 4000000 in
theorem fill_a (m : ModS) (ld : List Int) (l : List EvS) (order : List Int) (X : List EvS) (hs : SuitS m ld l) (ho : ∀ x ∈ order, 0 ≤ x ∧ x ≤ 255) (hx : ExtR order [] (ordE l) X) (hX : ExtO l X) (hp : X.Perm l) :
    CallA Tryz.prog 15 [mdl m, ints ld, evs l, u8s order] [] fun q own => ∃ p v, q = pm p ∧ own = [stoR p m (stN m (n0 l) ld []) v (stN m (n0 l) ld X), arrR v 37 13 X evC] := by
  obtain ⟨d, hd⟩ := get_of (l := l) (i := 0) hs.ne
  have hn : n0 l = d.past.length := by rw [n0, hd]; rfl
  have hr := n0_rng hs.e.2.2.1 (List.mem_of_getElem? hd)
  have hl60 := hs.e.2.1.1
  have hXl := hp.length_eq
  have hne := hs.ne
  have h1 := new35_a m (n0 l) ld hs.e.1 hr hs.ln (insS_ld hs.ld)
  rw [hn] at h1
  have h2 := extension_o l order X hs.e.2.2.1.2.1 (by omega) ho hx
  refine CallA.of pg ord15 Tryz.func15 rfl Tryz.ntmps15 Tryz.results15 rfl fun h0 G0 O0 => ?_
  repeat' (first | refine Sp.h ?_ | refine Lk.r rfl ?_ | refine Rf.mk rfl ?_ | (apply Bd.f; (focus (first | assumption | omega | exact Bool.false_ne_true))) | refine OpK.r rfl ?_ | (refine Im.mk ?_; intro _) | (refine All.mk ?_; intro _) | (apply TkB.r; (focus (repeat (first | exact Take.here | apply Take.there)))) | (apply Ix.q; (focus exact rfl); (focus assumption)) | refine Ch.l ⟨rfl, rfl⟩ ?_ | (apply CA.draw; (focus rfl); (focus kernel_rfl); (focus kernel_rfl); (focus repeat' (first | apply ON.one | exact ON.done | exact ON.none | apply ON.alt)); (focus rfl)) | fail)
  (apply Cl.use (h1); (focus repeat' (first | exact Lend.nil | apply Lend.keep | fail)); (focus (repeat (first | exact Takes.nil | (apply Takes.cons; (focus (repeat (first | exact Take.here | apply Take.there))))))); (focus rfl))
  rintro _ _ ⟨p, v, rfl, rfl⟩
  repeat' (first | refine Sp.h ?_ | refine Lk.r rfl ?_ | refine Rf.mk rfl ?_ | (apply Bd.t; (focus (first | assumption | omega | rfl))) | refine OpK.r rfl ?_ | fail)
  (apply Cl.use (h2); (focus repeat' (first | exact Lend.nil | apply Lend.keep | fail)); (focus (repeat (first | exact Takes.nil | (apply Takes.cons; (focus (repeat (first | exact Take.here | apply Take.there))))))); (focus rfl))
  rintro _ _ ⟨vx, rfl, rfl⟩
  repeat' (first | refine Sp.h ?_ | refine Lk.r rfl ?_ | (apply TkA.r; (focus (repeat (first | exact Take.here | apply Take.there)))) | fail)
  refine CA.loop (fun x : Nat × Value => ⟨[(9, pm p), (31, .ow vx), (32, it (X.length : Nat)), (33, it x.1)], [stoR p m (stN m (n0 l) ld []) x.2 (stN m (n0 l) ld (X.take x.1)), arrR x.2 37 13 (X.take x.1) evC, arrR vx 37 13 X evC]⟩) (fun x => x.1 ≤ X.length) (fun x => X.length - x.1) (0, v) ?_ (Nat.zero_le _) ?_
  · rw [hn]; exact ⟨by (repeat (first | exact trivial | refine ⟨rfl, ?_⟩)), by (repeat (first | exact Subl.nil | refine Subl.cons (by (repeat (first | exact Take.here | apply Take.there))) ?_))⟩
  rintro ⟨i, u⟩ hi
  simp only at hi
  simp only
  obtain ⟨f1, f2⟩ := fill_sto hs (by omega) hX i hi
  by_cases hin : i < X.length
  · obtain ⟨e, he⟩ := get_of hin
    have hdl := deliver_a p m (stN m (n0 l) ld []) u (X.take i) (stN m (n0 l) ld (X.take i)) e hs.e.1 (stN_ok hs (fun e he => hX.sub e (List.mem_of_mem_take he)) (by rw [List.length_take]; omega)) (by rw [List.length_take]; omega)
    rw [evsD, f2 e he, if_pos rfl] at hdl
    have hsu : X.take (i + 1) = X.take i ++ [e] := by rw [List.take_add_one, he]; rfl
    rw [← hsu] at hdl
    repeat' (first | refine Sp.h ?_ | refine Lk.r rfl ?_ | refine Rf.mk rfl ?_ | (apply Bd.t; (focus (first | assumption | omega | rfl))) | (refine All.mk ?_; intro _) | (apply TkA.r; (focus (repeat (first | exact Take.here | apply Take.there)))) | (apply TkB.r; (focus (repeat (first | exact Take.here | apply Take.there)))) | (apply Ix.q; (focus exact rfl); (focus assumption)) | (apply At.r; (focus assumption)) | refine Ch.l ⟨rfl, rfl⟩ ?_ | (apply SetAsk.r; (focus (repeat (first | exact SetAs.z | (apply SetAs.c; (focus (repeat (first | assumption | exact SetA.z | apply SetA.s)))))))) | (apply Nm.r; (focus repeat (first | apply LN.cons | exact LN.nil))) | fail)
    (apply Cl.use (hdl); (focus repeat' (first | exact Lend.nil | apply Lend.keep | fail)); (focus (repeat (first | exact Takes.nil | (apply Takes.cons; (focus (repeat (first | exact Take.here | apply Take.there))))))); (focus rfl))
    rintro _ _ ⟨rfl, u', rfl⟩
    repeat' (first | refine Sp.h ?_ | refine Lk.r rfl ?_ | refine Rf.mk rfl ?_ | (apply Bd.t; (focus (first | assumption | omega | rfl))) | (apply Ov.n; (focus first | omega | (simp <;> omega))) | fail)
    exact PA.lp (i + 1, u') ⟨by (repeat (first | exact trivial | refine ⟨rfl, ?_⟩)), by (repeat (first | exact Subl.nil | refine Subl.cons (by (repeat (first | exact Take.here | apply Take.there))) ?_))⟩ ⟨hin, by simp only; omega⟩
  · have hie : i = X.length := by omega
    subst hie
    simp only [List.take_length]
    repeat' (first | refine Sp.h ?_ | refine Lk.r rfl ?_ | refine Rf.mk rfl ?_ | (apply Bd.f; (focus (first | assumption | omega | exact Bool.false_ne_true))) | (apply Nm.r; (focus repeat (first | apply LN.cons | exact LN.nil))) | fail)
    exact ⟨_, _, .one (.same (.nil (by (repeat (first | exact Subl.nil | refine Subl.cons (by (repeat (first | exact Take.here | apply Take.there))) ?_))))), p, u, rfl, rfl⟩
end Go.Proofs.YtmllihbhphnolaaGreat
namespace Go.Proofs.YtmllihbhphnolaaGreat
open Go Go.CF
set_option maxRecDepth 20000
/-- What is known is of a size that can be cloned. -/
def SzM (k : List MgS) : Prop := k.length ≤ 100000 ∧ ∀ g ∈ k, g.marks.length ≤ 1000000
theorem mrg1_sz {m : ModS} {k : List MgS} {e : EvS} (h : SzM k) : SzM (mrg1 m k e) := by
  unfold mrg1
  by_cases h0 : (applyF m k e).1 = 0
  · obtain ⟨_, _, h3, _, h5⟩ := applyF_ok h0
    exact ⟨by rw [h3]; exact h.1, h5⟩
  · have h2 : (applyF m k e).2 = [] := by
      unfold applyF at h0 ⊢
      split
      · rfl
      · rename_i h1
        rw [if_neg h1] at h0
        split
        · rename_i h2; rw [if_pos h2] at h0; exact absurd rfl h0
        · rename_i h2
          rw [if_neg h2] at h0
          unfold gatherF at h0 ⊢
          split
          · rfl
          · rename_i h3
            rw [h3] at h0
            simp only at h0
            split
            · rfl
            · rename_i h4; rw [if_neg h4] at h0; exact absurd rfl h0
    rw [h2]
    exact ⟨by simp, by simp⟩
/-- A base that is sound for a clock of some replicas. -/
structure BasOK (m : ModS) (n : Nat) (b : NowS) : Prop where
  clk : ValC b.clock
  len : b.clock.length = n
  st : b.state.length = strF m
  mg : SzM b.merged
  pls : SrtI b.places
  pll : b.places.length ≤ 10000
theorem withP_srt {l : List Int} {n : Int} (h : SrtI l) : SrtI (withP l n) := (withP_si (l := l) (s := l) (n := n) ⟨h, fun _ => Iff.rfl⟩).1
theorem withP_le {l : List Int} {n : Int} (h : SrtI l) : (withP l n).length ≤ l.length + 1 := by
  by_cases hn : n ∈ l
  · rw [show withP l n = l from if_pos hn]; omega
  · rw [with_eq h hn]; simp; have := idxN_le (fun y => decide (¬ y < n)) l; unfold posI; omega
theorem plE_srt {l : List Int} {e : EvS} (h : SrtI l) : SrtI (plE l e) ∧ (plE l e).length ≤ l.length + 1 := by
  unfold plE
  split
  · exact ⟨withP_srt h, withP_le h⟩
  · exact ⟨h, by omega⟩
theorem inL_succ {c : List Int} {l : List EvS} {i : Nat} {e : EvS} (h : l[i]? = some e) : inL c (l.take (i + 1)) = inL c (l.take i) ++ if HasC c e.rep e.num then [e] else [] := by
  rw [inL, filter_succ h]
  by_cases hh : HasC c e.rep e.num <;> simp [hh, inL]
theorem outL_succ {c : List Int} {l : List EvS} {i : Nat} {e : EvS} (h : l[i]? = some e) : outL c (l.take (i + 1)) = outL c (l.take i) ++ if HasC c e.rep e.num then [] else [e] := by
  rw [outL, filter_succ h]
  by_cases hh : HasC c e.rep e.num <;> simp [hh, outL]
structure MidOK (m : ModS) (b x : NowS) (i : Nat) : Prop where
  ck : x.clock = b.clock
  st : x.state.length = strF m
  mg : SzM x.merged
  pls : SrtI x.places
  pll : x.places.length ≤ b.places.length + i
theorem mid_step {m : ModS} {b x : NowS} {i : Nat} {e : EvS} (h : MidOK m b x i) : MidOK m b (cmp1 m x e) (i + 1) :=
  ⟨h.ck, by simp only [cmp1, addE_len]; exact h.st, mrg1_sz h.mg, (plE_srt h.pls).1, by have := (plE_srt (e := e) h.pls).2; have := h.pll; simp only [cmp1]; omega⟩
theorem fits35_p (s : Nat) (m : ModS) (b : NowS) (v : Value) (w : NowS) (c : List Int) :
    CallA Tryz.prog 125 [pm s, ints c] [stoR s m b v w] fun r own => r = bl (decide (ValC c ∧ c.length = w.clock.length)) ∧ own = [stoR s m b v w] := by
  have h := validC_p c
  by_cases h1 : ValC c
  · rw [decide_eq_true h1] at h
    refine CallA.of pg ord125 Tryz.func125 rfl Tryz.ntmps125 Tryz.results125 rfl fun h0 G0 O0 => ?_
    repeat' (first | refine Sp.h ?_ | refine Lk.r rfl ?_ | refine Rf.mk rfl ?_ | (refine Im.mk ?_; intro _) | (apply TkB.r; (focus (repeat (first | exact Take.here | apply Take.there)))) | (apply Nm.r; (focus repeat (first | apply LN.cons | exact LN.nil))) | fail | (apply Cl.p (h); (focus repeat' (first | exact Lend.nil | apply Lend.keep | fail))))
    refine ⟨_, _, .one (.same (.nil (by (repeat (first | exact Subl.nil | refine Subl.cons (by (repeat (first | exact Take.here | apply Take.there))) ?_))))), vb (decide_eq_decide.2 ⟨fun h => ⟨h1, by omega⟩, fun h => by omega⟩), rfl⟩
  · rw [decide_eq_false h1] at h
    rw [decide_eq_false (fun h9 => h1 h9.1)]
    refine CallA.of pg ord125 Tryz.func125 rfl Tryz.ntmps125 Tryz.results125 rfl fun h0 G0 O0 => ?_
    repeat' (first | refine Sp.h ?_ | refine Lk.r rfl ?_ | refine Rf.mk rfl ?_ | (apply Nm.r; (focus repeat (first | apply LN.cons | exact LN.nil))) | fail | (apply Cl.p (h); (focus repeat' (first | exact Lend.nil | apply Lend.keep | fail))))
    exact ⟨_, _, .one (.same (.nil (by (repeat (first | exact Subl.nil | refine Subl.cons (by (repeat (first | exact Take.here | apply Take.there))) ?_))))), rfl, rfl⟩
abbrev midC (x : NowS) (u : Value) : List AV := [ints x.clock, it x.time, .ow u, mgs x.merged, nl0, nl0, ints x.places]
set_option maxHeartbeats 16000000 in
theorem compact_a (s : Nat) (m : ModS) (b : NowS) (v : Value) (evl : List EvS) (w : NowS) (c : List Int) (hm : MOK m) (hw : NowOK m w) (hb : BasOK m w.clock.length b) (hl : evl.length ≤ 1000) (hev : ∀ e ∈ evl, EvV m (w.clock.length : Nat) e) :
    CallA Tryz.prog 66 [pm s, ints c] [stoR s m b v w, arrR v 37 13 evl evC] fun r own => r = it (compactF m ⟨b, evl, w⟩ c).1 ∧ ∃ v', own = [stoR s m (compactF m ⟨b, evl, w⟩ c).2.base v' (compactF m ⟨b, evl, w⟩ c).2.now, arrR v' 37 13 (compactF m ⟨b, evl, w⟩ c).2.evs evC] := by
  have hfi := fits35_p s m b v w c
  have hstr := hm.str
  by_cases h1 : ValC c ∧ c.length = w.clock.length
  rotate_left
  · have hF : compactF m ⟨b, evl, w⟩ c = (1, ⟨b, evl, w⟩) := @if_pos _ (Classical.propDecidable _) h1 _ _ _
    rw [hF]
    rw [decide_eq_false h1] at hfi
    refine CallA.of pg ord66 Tryz.func66 rfl Tryz.ntmps66 Tryz.results66 rfl fun h0 G0 O0 => ?_
    repeat' (first | refine Sp.h ?_ | refine Lk.r rfl ?_ | refine Rf.mk rfl ?_ | fail)
    (apply Cl.use (hfi); (focus repeat' (first | exact Lend.nil | apply Lend.keep | fail)); (focus (repeat (first | exact Takes.nil | (apply Takes.cons; (focus (repeat (first | exact Take.here | apply Take.there))))))); (focus rfl))
    rintro _ _ ⟨rfl, rfl⟩
    repeat' (first | refine Sp.h ?_ | refine Lk.r rfl ?_ | refine Rf.mk rfl ?_ | (apply Bd.f; (focus (first | assumption | omega | exact Bool.false_ne_true))) | (apply Nm.r; (focus repeat (first | apply LN.cons | exact LN.nil))) | fail)
    exact ⟨_, _, .one (.same (.nil (by (repeat (first | exact Subl.nil | refine Subl.cons (by (repeat (first | exact Take.here | apply Take.there))) ?_))))), rfl, v, rfl⟩
  rw [decide_eq_true h1] at hfi
  have hF9 : ¬ (Ins b.clock c ∧ Ins c w.clock ∧ ∀ e ∈ evl, HasC c e.rep e.num → Ins e.past c) → compactF m ⟨b, evl, w⟩ c = (9, ⟨b, evl, w⟩) := fun h =>
    (@if_neg _ (Classical.propDecidable _) (fun h9 => h9 h1) _ _ _).trans (@if_pos _ (Classical.propDecidable _) h _ _ _)
  have hm1 := missing_o c b.clock
  have hm2 := missing_o w.clock c
  have hbl := hb.len
  have hal1 : AlikeC [c, b.clock] := (alike2 _ _).2 ⟨h1.1, hb.clk, by omega⟩
  have hal2 : AlikeC [w.clock, c] := (alike2 _ _).2 ⟨hw.clk, h1.1, by omega⟩
  by_cases h2 : Ins b.clock c
  rotate_left
  · rw [hF9 (fun h => h2 h.1)]
    refine CallA.of pg ord66 Tryz.func66 rfl Tryz.ntmps66 Tryz.results66 rfl fun h0 G0 O0 => ?_
    repeat' (first | refine Sp.h ?_ | refine Lk.r rfl ?_ | refine Rf.mk rfl ?_ | fail)
    (apply Cl.use (hfi); (focus repeat' (first | exact Lend.nil | apply Lend.keep | fail)); (focus (repeat (first | exact Takes.nil | (apply Takes.cons; (focus (repeat (first | exact Take.here | apply Take.there))))))); (focus rfl))
    rintro _ _ ⟨rfl, rfl⟩
    repeat' (first | refine Sp.h ?_ | refine Lk.r rfl ?_ | refine Rf.mk rfl ?_ | (apply Bd.t; (focus (first | assumption | omega | rfl))) | (apply TkB.r; (focus (repeat (first | exact Take.here | apply Take.there)))) | fail)
    (apply Cl.use (hm1); (focus repeat' (first | exact Lend.nil | apply Lend.keep | fail)); (focus (repeat (first | exact Takes.nil | (apply Takes.cons; (focus (repeat (first | exact Take.here | apply Take.there))))))); (focus rfl))
    rintro _ _ ⟨u, l, rfl, rfl, k1, k2⟩
    have k0 : 0 < l.length := List.length_pos_iff.2 fun h => h2 (k1.1 h hal1)
    repeat' (first | refine Sp.h ?_ | refine Lk.r rfl ?_ | refine Rf.mk rfl ?_ | (apply Bd.t; (focus (first | assumption | omega | rfl))) | (apply TkA.r; (focus (repeat (first | exact Take.here | apply Take.there)))) | (apply Nm.r; (focus repeat (first | apply LN.cons | exact LN.nil))) | fail)
    exact ⟨_, _, .one (.same (.nil (by (repeat (first | exact Subl.nil | refine Subl.cons (by (repeat (first | exact Take.here | apply Take.there))) ?_))))), rfl, v, rfl⟩
  by_cases h3 : Ins c w.clock
  rotate_left
  · rw [hF9 (fun h => h3 h.2.1)]
    refine CallA.of pg ord66 Tryz.func66 rfl Tryz.ntmps66 Tryz.results66 rfl fun h0 G0 O0 => ?_
    repeat' (first | refine Sp.h ?_ | refine Lk.r rfl ?_ | refine Rf.mk rfl ?_ | fail)
    (apply Cl.use (hfi); (focus repeat' (first | exact Lend.nil | apply Lend.keep | fail)); (focus (repeat (first | exact Takes.nil | (apply Takes.cons; (focus (repeat (first | exact Take.here | apply Take.there))))))); (focus rfl))
    rintro _ _ ⟨rfl, rfl⟩
    repeat' (first | refine Sp.h ?_ | refine Lk.r rfl ?_ | refine Rf.mk rfl ?_ | (apply Bd.t; (focus (first | assumption | omega | rfl))) | (apply TkB.r; (focus (repeat (first | exact Take.here | apply Take.there)))) | fail)
    (apply Cl.use (hm1); (focus repeat' (first | exact Lend.nil | apply Lend.keep | fail)); (focus (repeat (first | exact Takes.nil | (apply Takes.cons; (focus (repeat (first | exact Take.here | apply Take.there))))))); (focus rfl))
    rintro _ _ ⟨u, l, rfl, rfl, k1, k2⟩
    have k0 : l.length = 0 := by rw [k1.2 fun _ => h2]; rfl
    repeat' (first | refine Sp.h ?_ | refine Lk.r rfl ?_ | refine Rf.mk rfl ?_ | (apply Bd.f; (focus (first | assumption | omega | exact Bool.false_ne_true))) | (apply TkA.r; (focus (repeat (first | exact Take.here | apply Take.there)))) | (apply TkB.r; (focus (repeat (first | exact Take.here | apply Take.there)))) | fail)
    (apply Cl.use (hm2); (focus repeat' (first | exact Lend.nil | apply Lend.keep | fail)); (focus (repeat (first | exact Takes.nil | (apply Takes.cons; (focus (repeat (first | exact Take.here | apply Take.there))))))); (focus rfl))
    rintro _ _ ⟨u2, l2, rfl, rfl, j1, j2⟩
    have j0 : 0 < l2.length := List.length_pos_iff.2 fun h => h3 (j1.1 h hal2)
    repeat' (first | refine Sp.h ?_ | refine Lk.r rfl ?_ | refine Rf.mk rfl ?_ | (apply Bd.t; (focus (first | assumption | omega | rfl))) | (apply Bd.f; (focus (first | assumption | omega | exact Bool.false_ne_true))) | (apply TkA.r; (focus (repeat (first | exact Take.here | apply Take.there)))) | (apply Nm.r; (focus repeat (first | apply LN.cons | exact LN.nil))) | fail)
    exact ⟨_, _, .one (.same (.nil (by (repeat (first | exact Subl.nil | refine Subl.cons (by (repeat (first | exact Take.here | apply Take.there))) ?_))))), rfl, v, rfl⟩
  have hcb := cloneBase_a b nl0 nl0 ⟨by have := hb.clk.2.2; omega, by have := hb.st; omega, hb.mg.1, hb.mg.2, by have := hb.pll; omega⟩
  have hcc := clone_o c (by have := h1.1.2.2; omega)
  refine CallA.of pg ord66 Tryz.func66 rfl Tryz.ntmps66 Tryz.results66 rfl fun h0 G0 O0 => ?_
  repeat' (first | refine Sp.h ?_ | refine Lk.r rfl ?_ | refine Rf.mk rfl ?_ | fail)
  (apply Cl.use (hfi); (focus repeat' (first | exact Lend.nil | apply Lend.keep | fail)); (focus (repeat (first | exact Takes.nil | (apply Takes.cons; (focus (repeat (first | exact Take.here | apply Take.there))))))); (focus rfl))
  rintro _ _ ⟨rfl, rfl⟩
  repeat' (first | refine Sp.h ?_ | refine Lk.r rfl ?_ | refine Rf.mk rfl ?_ | (apply Bd.t; (focus (first | assumption | omega | rfl))) | (apply TkB.r; (focus (repeat (first | exact Take.here | apply Take.there)))) | fail)
  (apply Cl.use (hm1); (focus repeat' (first | exact Lend.nil | apply Lend.keep | fail)); (focus (repeat (first | exact Takes.nil | (apply Takes.cons; (focus (repeat (first | exact Take.here | apply Take.there))))))); (focus rfl))
  rintro _ _ ⟨u1, l1, rfl, rfl, k1, k2⟩
  have k0 : l1.length = 0 := by rw [k1.2 fun _ => h2]; rfl
  repeat' (first | refine Sp.h ?_ | refine Lk.r rfl ?_ | refine Rf.mk rfl ?_ | (apply Bd.f; (focus (first | assumption | omega | exact Bool.false_ne_true))) | (apply TkA.r; (focus (repeat (first | exact Take.here | apply Take.there)))) | (apply TkB.r; (focus (repeat (first | exact Take.here | apply Take.there)))) | fail)
  (apply Cl.use (hm2); (focus repeat' (first | exact Lend.nil | apply Lend.keep | fail)); (focus (repeat (first | exact Takes.nil | (apply Takes.cons; (focus (repeat (first | exact Take.here | apply Take.there))))))); (focus rfl))
  rintro _ _ ⟨u2, l2, rfl, rfl, j1, j2⟩
  have j0 : l2.length = 0 := by rw [j1.2 fun _ => h3]; rfl
  repeat' (first | refine Sp.h ?_ | refine Lk.r rfl ?_ | refine Rf.mk rfl ?_ | (apply Bd.f; (focus (first | assumption | omega | exact Bool.false_ne_true))) | (apply TkA.r; (focus (repeat (first | exact Take.here | apply Take.there)))) | (apply TkB.r; (focus (repeat (first | exact Take.here | apply Take.there)))) | refine Ch.r ?_ | fail)
  (apply Cl.use (hcb); (focus repeat' (first | exact Lend.nil | apply Lend.keep | fail)); (focus (repeat (first | exact Takes.nil | (apply Takes.cons; (focus (repeat (first | exact Take.here | apply Take.there))))))); (focus rfl))
  rintro _ _ ⟨v1, v2, v3, L, v4, rfl, hL, rfl⟩
  (repeat' (first | (show CA _ _ (Code.region 6 _ _) _ _; apply Stopped.out) | refine Sp.h ?_ | refine Lk.r rfl ?_ | refine Rf.mk rfl ?_ | (refine All.mk ?_; intro _) | (apply TkB.r; (focus (repeat (first | exact Take.here | apply Take.there)))) | (apply SetAsk.r; (focus (repeat (first | exact SetAs.z | (apply SetAs.c; (focus (repeat (first | assumption | exact SetA.z | apply SetA.s)))))))) | (apply Nm.r; (focus repeat (first | apply LN.cons | exact LN.nil))) | fail)); any_goals apply Stopped.mk
  rename_i b5
  have hLl : L.length ≤ 1000000 := by have h8 := congrArg List.length hL; rw [List.length_map] at h8; have := hb.mg.1; omega
  have hLk : ∀ x ∈ L, x.marks.length ≤ 1000000 := fun x hx => hb.mg.2 x.g (by rw [← hL]; exact List.mem_map_of_mem hx)
  have hbc := hb.clk.2.2
  have hbp := hb.pll
  have hbs := hb.st
  apply CA.own
  focus (apply OX.blk (b := b5); (focus (repeat (first | exact Take.here | apply Take.there))); (focus (apply FX.s1; (focus (repeat (first | exact Take.here | apply Take.there))); (focus omega); apply FX.k; apply FX.k; apply out_fx2; (focus (repeat (first | exact Take.here | apply Take.there))); (focus (repeat (first | exact Take.here | apply Take.there))); (focus exact hLl); (focus exact hLk); apply FX.k; apply FX.k; apply FX.s1; (focus (repeat (first | exact Take.here | apply Take.there))); (focus omega); exact FX.nil)); (focus (repeat (first | exact Take.here | apply Take.there))))
  rw [hL]
  repeat' (first | refine Sp.h ?_ | refine Lk.r rfl ?_ | refine Rf.mk rfl ?_ | (apply TkA.r; (focus (repeat (first | exact Take.here | apply Take.there)))) | (apply TkB.r; (focus (repeat (first | exact Take.here | apply Take.there)))) | fail)
  refine CA.nilOwn 6 37 13 evC rfl fun vr => ?_
  refine CA.loop (fun x : Nat × Value × NowS => ⟨[(0, pm s), (1, ints c), (5, pm b5), (6, .ow x.2.1), (46, .ow v), (47, it (evl.length : Nat)), (48, it x.1)], [stoR s m b v w, arrR v 37 13 evl evC, blkR b5 75 (midC x.2.2 v2), arrR v2 3 1 x.2.2.state intC, arrR x.2.1 37 13 (outL c (evl.take x.1)) evC]⟩)
    (fun x => x.1 ≤ evl.length ∧ (∀ e ∈ evl.take x.1, HasC c e.rep e.num → Ins e.past c) ∧ MidOK m b x.2.2 x.1 ∧ x.2.2 = (inL c (evl.take x.1)).foldl (cmp1 m) b) (fun x => evl.length - x.1) (0, vr, b) ⟨by (repeat (first | exact trivial | refine ⟨rfl, ?_⟩)), by (repeat (first | exact Subl.nil | refine Subl.cons (by (repeat (first | exact Take.here | apply Take.there))) ?_))⟩ ⟨Nat.zero_le _, by simp, ⟨rfl, hb.st, hb.mg, hb.pls, by simp⟩, rfl⟩ ?_
  rintro ⟨i, vr, y⟩ ⟨hi, hin0, hmid, hy⟩
  simp only at hi hin0 hmid hy
  simp only
  have hyp := hmid.pll
  have hys := hmid.st
  by_cases hil : i < evl.length
  · obtain ⟨e, he⟩ := get_of hil
    have heV := hev e (List.mem_of_getElem? he)
    have hn := name35_p e
    have hh := hasC_p c e.rep e.num
    have hsi := inL_succ (c := c) he
    have hso := outL_succ (c := c) he
    have hol : (outL c (evl.take i)).length ≤ i := by
      have := List.length_filter_le (fun e : EvS => decide (¬ HasC c e.rep e.num)) (evl.take i)
      rw [List.length_take] at this
      unfold outL; omega
    by_cases hhc : HasC c e.rep e.num
    rotate_left
    · rw [decide_eq_false hhc] at hh
      rw [if_neg hhc] at hsi hso
      rw [List.append_nil] at hsi
      repeat' (first | refine Sp.h ?_ | refine Lk.r rfl ?_ | refine Rf.mk rfl ?_ | (apply Bd.t; (focus (first | assumption | omega | rfl))) | (apply Bd.f; (focus (first | assumption | omega | exact Bool.false_ne_true))) | (apply Om.mk; (focus first | omega | (simp <;> omega))) | (refine All.mk ?_; intro _) | (apply TkA.r; (focus (repeat (first | exact Take.here | apply Take.there)))) | (apply TkB.r; (focus (repeat (first | exact Take.here | apply Take.there)))) | (apply Ix.q; (focus exact rfl); (focus assumption)) | (apply At.r; (focus assumption)) | refine Ce.r ?_ | refine Ch.l ⟨rfl, rfl⟩ ?_ | (apply SetAsk.r; (focus (repeat (first | exact SetAs.z | (apply SetAs.c; (focus (repeat (first | assumption | exact SetA.z | apply SetA.s)))))))) | (apply Fk.r; (focus (repeat (first | exact FillA.nil | (apply FillA.agg; (focus rfl); (focus rfl); (focus (repeat (first | exact SetAs.z | (apply SetAs.c; (focus (repeat (first | assumption | exact SetA.z | apply SetA.s)))))))) | (apply FillA.one; (focus rfl); (focus infer_instance); (focus (repeat (first | assumption | exact SetA.z | apply SetA.s)))))))) | (apply Nm.r; (focus repeat (first | apply LN.cons | exact LN.nil))) | refine Rf.mk ⟨rfl, rfl⟩ ?_ | refine Rf.mk ⟨rfl, rfl, rfl⟩ ?_ | (apply Mp.lit; (focus repeat (first | exact MpL.nil | (apply MpL.cons; (focus rfl)) | (apply MpL.inv; (focus repeat (first | apply LN.cons | exact LN.nil)); (focus infer_instance))))) | (apply Ov.n; (focus first | omega | (simp <;> omega))) | fail | (apply Cl.p (hn); (focus ((repeat' (first | exact Lend.nil | apply Lend.keep | fail)); done))) | (apply Cl.p (hh); (focus ((repeat' (first | exact Lend.nil | apply Lend.keep | fail)); done))))
      rw [← hso]
      exact PA.lp (i + 1, _, y) ⟨by (repeat (first | exact trivial | refine ⟨rfl, ?_⟩)), by (repeat (first | exact Subl.nil | refine Subl.cons (by (repeat (first | exact Take.here | apply Take.there))) ?_))⟩ ⟨⟨hil, all_succ he hin0 (fun h => absurd h hhc), ⟨hmid.ck, hmid.st, hmid.mg, hmid.pls, by simp only; omega⟩, by simp only; rw [hsi]; exact hy⟩, by simp only; omega⟩
    rw [decide_eq_true hhc] at hh
    rw [if_pos hhc] at hsi hso
    rw [List.append_nil] at hso
    have hm3 := missing_o c e.past
    have hal3 : AlikeC [c, e.past] := (alike2 _ _).2 ⟨h1.1, heV.1.1, by have := heV.2.1; omega⟩
    by_cases hie : Ins e.past c
    rotate_left
    · rw [hF9 (fun h => hie (h.2.2 e (List.mem_of_getElem? he) hhc))]
      repeat' (first | refine Sp.h ?_ | refine Lk.r rfl ?_ | refine Rf.mk rfl ?_ | (apply Bd.t; (focus (first | assumption | omega | rfl))) | (refine All.mk ?_; intro _) | (apply TkA.r; (focus (repeat (first | exact Take.here | apply Take.there)))) | (apply TkB.r; (focus (repeat (first | exact Take.here | apply Take.there)))) | (apply Ix.q; (focus exact rfl); (focus assumption)) | (apply At.r; (focus assumption)) | refine Ch.l ⟨rfl, rfl⟩ ?_ | (apply SetAsk.r; (focus (repeat (first | exact SetAs.z | (apply SetAs.c; (focus (repeat (first | assumption | exact SetA.z | apply SetA.s)))))))) | (apply Nm.r; (focus repeat (first | apply LN.cons | exact LN.nil))) | fail | (apply Cl.p (hn); (focus ((repeat' (first | exact Lend.nil | apply Lend.keep | fail)); done))) | (apply Cl.p (hh); (focus ((repeat' (first | exact Lend.nil | apply Lend.keep | fail)); done))))
      (apply Cl.use (hm3); (focus repeat' (first | exact Lend.nil | apply Lend.keep | fail)); (focus (repeat (first | exact Takes.nil | (apply Takes.cons; (focus (repeat (first | exact Take.here | apply Take.there))))))); (focus rfl))
      rintro _ _ ⟨u3, l3, rfl, rfl, q1, q2⟩
      have q0 : 0 < l3.length := List.length_pos_iff.2 fun h => hie (q1.1 h hal3)
      repeat' (first | refine Sp.h ?_ | refine Lk.r rfl ?_ | refine Rf.mk rfl ?_ | (apply Bd.t; (focus (first | assumption | omega | rfl))) | (apply TkA.r; (focus (repeat (first | exact Take.here | apply Take.there)))) | (apply Nm.r; (focus repeat (first | apply LN.cons | exact LN.nil))) | fail)
      exact ⟨_, _, .one (.same (.nil (by (repeat (first | exact Subl.nil | refine Subl.cons (by (repeat (first | exact Take.here | apply Take.there))) ?_))))), rfl, v, rfl⟩
    have hap := applyT_p m y.merged e hm
    have hwi := with_p y.places e.place hmid.pls (by omega)
    have hst := mid_step (e := e) hmid
    have hfd : cmp1 m y e = (inL c (evl.take (i + 1))).foldl (cmp1 m) b := by rw [hsi, List.foldl_append, ← hy]; rfl
    have hnx : ∀ d ∈ evl.take (i + 1), HasC c d.rep d.num → Ins d.past c := all_succ he hin0 (fun _ => hie)
    repeat' (first | refine Sp.h ?_ | refine Lk.r rfl ?_ | refine Rf.mk rfl ?_ | (apply Bd.t; (focus (first | assumption | omega | rfl))) | (refine All.mk ?_; intro _) | (apply TkA.r; (focus (repeat (first | exact Take.here | apply Take.there)))) | (apply TkB.r; (focus (repeat (first | exact Take.here | apply Take.there)))) | (apply Ix.q; (focus exact rfl); (focus assumption)) | (apply At.r; (focus assumption)) | refine Ch.l ⟨rfl, rfl⟩ ?_ | (apply SetAsk.r; (focus (repeat (first | exact SetAs.z | (apply SetAs.c; (focus (repeat (first | assumption | exact SetA.z | apply SetA.s)))))))) | (apply Nm.r; (focus repeat (first | apply LN.cons | exact LN.nil))) | fail | (apply Cl.p (hn); (focus ((repeat' (first | exact Lend.nil | apply Lend.keep | fail)); done))) | (apply Cl.p (hh); (focus ((repeat' (first | exact Lend.nil | apply Lend.keep | fail)); done))))
    (apply Cl.use (hm3); (focus repeat' (first | exact Lend.nil | apply Lend.keep | fail)); (focus (repeat (first | exact Takes.nil | (apply Takes.cons; (focus (repeat (first | exact Take.here | apply Take.there))))))); (focus rfl))
    rintro _ _ ⟨u3, l3, rfl, rfl, q1, q2⟩
    have q0 : l3.length = 0 := by rw [q1.2 fun _ => hie]; rfl
    by_cases hk : e.kind = 0
    rotate_left
    · have hadd : addE m y.state e = y.state := if_neg hk
      by_cases hpl : 0 < e.place
      · repeat' (first | refine Sp.h ?_ | refine Lk.r rfl ?_ | refine Rf.mk rfl ?_ | (apply Bd.t; (focus (first | assumption | omega | rfl))) | (apply Bd.f; (focus (first | assumption | omega | exact Bool.false_ne_true))) | refine OpK.r rfl ?_ | (apply TkA.r; (focus (repeat (first | exact Take.here | apply Take.there)))) | (apply TkB.r; (focus (repeat (first | exact Take.here | apply Take.there)))) | refine Ch.l ⟨rfl, rfl⟩ ?_ | refine Ch.r ?_ | (apply SetAk.r; (focus (repeat (first | assumption | exact SetA.z | apply SetA.s)))) | (apply CA.draw; (focus rfl); (focus kernel_rfl); (focus kernel_rfl); (focus repeat' (first | apply ON.one | exact ON.done | exact ON.none | apply ON.alt)); (focus rfl)) | (apply Ov.n; (focus first | omega | (simp <;> omega))) | fail | (apply Cl.p (hap); (focus ((repeat' (first | exact Lend.nil | apply Lend.keep | fail)); done))) | (apply Cl.p (hwi); (focus ((repeat' (first | exact Lend.nil | apply Lend.keep | fail)); done))))
        have hz : (⟨y.clock, max y.time e.time, y.state, (applyF m y.merged e).2, withP y.places e.place⟩ : NowS) = cmp1 m y e := by rw [cmp1, hadd, plE, if_pos hpl]; rfl
        all_goals rw [← hso]
        all_goals exact PA.lp (i + 1, vr, ⟨y.clock, max y.time e.time, y.state, (applyF m y.merged e).2, withP y.places e.place⟩) ⟨by (repeat (first | exact trivial | refine ⟨rfl, ?_⟩)), by (repeat (first | exact Subl.nil | refine Subl.cons (by (repeat (first | exact Take.here | apply Take.there))) ?_))⟩ ⟨⟨hil, hnx, by simp only; rw [hz]; exact hst, by simp only; rw [hz]; exact hfd⟩, by simp only; omega⟩
      · repeat' (first | refine Sp.h ?_ | refine Lk.r rfl ?_ | refine Rf.mk rfl ?_ | (apply Bd.f; (focus (first | assumption | omega | exact Bool.false_ne_true))) | refine OpK.r rfl ?_ | (apply TkA.r; (focus (repeat (first | exact Take.here | apply Take.there)))) | (apply TkB.r; (focus (repeat (first | exact Take.here | apply Take.there)))) | refine Ch.l ⟨rfl, rfl⟩ ?_ | refine Ch.r ?_ | (apply SetAk.r; (focus (repeat (first | assumption | exact SetA.z | apply SetA.s)))) | (apply CA.draw; (focus rfl); (focus kernel_rfl); (focus kernel_rfl); (focus repeat' (first | apply ON.one | exact ON.done | exact ON.none | apply ON.alt)); (focus rfl)) | (apply Ov.n; (focus first | omega | (simp <;> omega))) | fail | (apply Cl.p (hap); (focus ((repeat' (first | exact Lend.nil | apply Lend.keep | fail)); done))) | (apply Cl.p (hwi); (focus ((repeat' (first | exact Lend.nil | apply Lend.keep | fail)); done))))
        have hz : (⟨y.clock, max y.time e.time, y.state, (applyF m y.merged e).2, y.places⟩ : NowS) = cmp1 m y e := by rw [cmp1, hadd, plE, if_neg hpl]; rfl
        all_goals rw [← hso]
        all_goals exact PA.lp (i + 1, vr, ⟨y.clock, max y.time e.time, y.state, (applyF m y.merged e).2, y.places⟩) ⟨by (repeat (first | exact trivial | refine ⟨rfl, ?_⟩)), by (repeat (first | exact Subl.nil | refine Subl.cons (by (repeat (first | exact Take.here | apply Take.there))) ?_))⟩ ⟨⟨hil, hnx, by simp only; rw [hz]; exact hst, by simp only; rw [hz]; exact hfd⟩, by simp only; omega⟩
    have hact := act_rng heV.1 hk
    have hact2 := heV.2.2 hk
    obtain ⟨a, ha⟩ := get_of (l := m.acts) (i := e.action.toNat) (by omega)
    have hd := dltF_at ha
    have heo := hm.eff a (List.mem_of_getElem? ha)
    have hadd : addE m y.state e = addD y.state a.eff.delta := by rw [addE, if_pos hk, hd]
    repeat' (first | refine Sp.h ?_ | refine Lk.r rfl ?_ | refine Rf.mk rfl ?_ | (apply Bd.t; (focus (first | assumption | omega | rfl))) | (apply Bd.f; (focus (first | assumption | omega | exact Bool.false_ne_true))) | refine OpK.r rfl ?_ | (refine Im.mk ?_; intro _) | (apply TkA.r; (focus (repeat (first | exact Take.here | apply Take.there)))) | (apply TkB.r; (focus (repeat (first | exact Take.here | apply Take.there)))) | (apply Ix.r; (focus assumption); (focus omega)) | (apply SetAk.r; (focus (repeat (first | assumption | exact SetA.z | apply SetA.s)))) | (apply CA.draw; (focus rfl); (focus kernel_rfl); (focus kernel_rfl); (focus repeat' (first | apply ON.one | exact ON.done | exact ON.none | apply ON.alt)); (focus rfl)) | fail)
    refine CA.loop (fun k : Nat => ⟨[(0, pm s), (1, ints c), (5, pm b5), (6, .ow vr), (8, pm _), (46, .ow v), (47, it (evl.length : Nat)), (48, it i), (86, terms a.eff.delta), (87, it (a.eff.delta.length : Nat)), (88, it k)], [stoR s m b v w, arrR v 37 13 evl evC, blkR b5 75 (midC { y with time := max y.time e.time } v2), arrR v2 3 1 (addD y.state (a.eff.delta.take k)) intC, arrR vr 37 13 (outL c (evl.take i)) evC, blkR _ 37 (evC e)]⟩) (fun k => k ≤ a.eff.delta.length) (fun k => a.eff.delta.length - k) 0 ⟨by (repeat (first | exact trivial | refine ⟨rfl, ?_⟩)), by (repeat (first | exact Subl.nil | refine Subl.cons (by (repeat (first | exact Take.here | apply Take.there))) ?_))⟩ (Nat.zero_le _) ?_
    intro k hk2
    have hlen := addD_length (a.eff.delta.take k) y.state
    by_cases hkl : k < a.eff.delta.length
    · obtain ⟨p, hp⟩ := get_of hkl
      obtain ⟨p1, p2⟩ := heo.d p (List.mem_of_getElem? hp)
      obtain ⟨z, hz⟩ := get_of (l := addD y.state (a.eff.delta.take k)) (i := p.1.toNat) (by omega)
      have hsd := addD_succ (s := y.state) hp
      rw [show add1 (addD y.state (a.eff.delta.take k)) p = (addD y.state (a.eff.delta.take k)).set p.1.toNat (IntKind.i64.wrap (z + p.2)) by rw [add1, hz]; rfl] at hsd
      repeat' (first | refine Sp.h ?_ | refine Lk.r rfl ?_ | refine Rf.mk rfl ?_ | (apply Bd.t; (focus (first | assumption | omega | rfl))) | refine OpK.r rfl ?_ | (refine All.mk ?_; intro _) | (apply TkA.r; (focus (repeat (first | exact Take.here | apply Take.there)))) | (apply TkB.r; (focus (repeat (first | exact Take.here | apply Take.there)))) | (apply Ix.q; (focus exact rfl); (focus assumption)) | (apply Ix.r; (focus assumption); (focus omega)) | (apply At.r; (focus assumption)) | refine Ch.l ⟨rfl, rfl⟩ ?_ | (apply SetAsk.r; (focus (repeat (first | exact SetAs.z | (apply SetAs.c; (focus (repeat (first | assumption | exact SetA.z | apply SetA.s)))))))) | (apply Nm.r; (focus repeat (first | apply LN.cons | exact LN.nil))) | (apply CA.draw; (focus rfl); (focus kernel_rfl); (focus kernel_rfl); (focus repeat' (first | apply ON.one | exact ON.done | exact ON.none | apply ON.alt)); (focus rfl)) | fail)
      refine ⟨?_⟩
      repeat' (first | refine Sp.h ?_ | refine Lk.r rfl ?_ | refine Rf.mk rfl ?_ | refine OpK.r rfl ?_ | (apply TkA.r; (focus (repeat (first | exact Take.here | apply Take.there)))) | (apply Ix.r; (focus assumption); (focus omega)) | (apply At.r; (focus assumption)) | (apply SetAk.r; (focus (repeat (first | assumption | exact SetA.z | apply SetA.s)))) | refine Up.r rfl ?_ | (apply Ov.n; (focus first | omega | (simp <;> omega))) | fail)
      rw [← hsd]
      exact PA.lp (k + 1) ⟨by (repeat (first | exact trivial | refine ⟨rfl, ?_⟩)), by (repeat (first | exact Subl.nil | refine Subl.cons (by (repeat (first | exact Take.here | apply Take.there))) ?_))⟩ ⟨hkl, by omega⟩
    · have hke : k = a.eff.delta.length := by omega
      subst hke
      rw [List.take_length]
      by_cases hpl : 0 < e.place
      · repeat' (first | refine Sp.h ?_ | refine Lk.r rfl ?_ | refine Rf.mk rfl ?_ | (apply Bd.t; (focus (first | assumption | omega | rfl))) | (apply Bd.f; (focus (first | assumption | omega | exact Bool.false_ne_true))) | refine OpK.r rfl ?_ | (apply TkB.r; (focus (repeat (first | exact Take.here | apply Take.there)))) | refine Ch.l ⟨rfl, rfl⟩ ?_ | refine Ch.r ?_ | (apply SetAk.r; (focus (repeat (first | assumption | exact SetA.z | apply SetA.s)))) | (apply CA.draw; (focus rfl); (focus kernel_rfl); (focus kernel_rfl); (focus repeat' (first | apply ON.one | exact ON.done | exact ON.none | apply ON.alt)); (focus rfl)) | (apply Ov.n; (focus first | omega | (simp <;> omega))) | fail | (apply Cl.p (hap); (focus ((repeat' (first | exact Lend.nil | apply Lend.keep | fail)); done))) | (apply Cl.p (hwi); (focus ((repeat' (first | exact Lend.nil | apply Lend.keep | fail)); done))))
        have hz : (⟨y.clock, max y.time e.time, addD y.state a.eff.delta, (applyF m y.merged e).2, withP y.places e.place⟩ : NowS) = cmp1 m y e := by rw [cmp1, hadd, plE, if_pos hpl]; rfl
        all_goals rw [← hso]
        all_goals exact PA.lp (i + 1, vr, ⟨y.clock, max y.time e.time, addD y.state a.eff.delta, (applyF m y.merged e).2, withP y.places e.place⟩) ⟨by (repeat (first | exact trivial | refine ⟨rfl, ?_⟩)), by (repeat (first | exact Subl.nil | refine Subl.cons (by (repeat (first | exact Take.here | apply Take.there))) ?_))⟩ ⟨⟨hil, hnx, by simp only; rw [hz]; exact hst, by simp only; rw [hz]; exact hfd⟩, by simp only; omega⟩
      · repeat' (first | refine Sp.h ?_ | refine Lk.r rfl ?_ | refine Rf.mk rfl ?_ | (apply Bd.f; (focus (first | assumption | omega | exact Bool.false_ne_true))) | refine OpK.r rfl ?_ | (apply TkB.r; (focus (repeat (first | exact Take.here | apply Take.there)))) | refine Ch.l ⟨rfl, rfl⟩ ?_ | refine Ch.r ?_ | (apply SetAk.r; (focus (repeat (first | assumption | exact SetA.z | apply SetA.s)))) | (apply CA.draw; (focus rfl); (focus kernel_rfl); (focus kernel_rfl); (focus repeat' (first | apply ON.one | exact ON.done | exact ON.none | apply ON.alt)); (focus rfl)) | (apply Ov.n; (focus first | omega | (simp <;> omega))) | fail | (apply Cl.p (hap); (focus ((repeat' (first | exact Lend.nil | apply Lend.keep | fail)); done))) | (apply Cl.p (hwi); (focus ((repeat' (first | exact Lend.nil | apply Lend.keep | fail)); done))))
        have hz : (⟨y.clock, max y.time e.time, addD y.state a.eff.delta, (applyF m y.merged e).2, y.places⟩ : NowS) = cmp1 m y e := by rw [cmp1, hadd, plE, if_neg hpl]; rfl
        all_goals rw [← hso]
        all_goals exact PA.lp (i + 1, vr, ⟨y.clock, max y.time e.time, addD y.state a.eff.delta, (applyF m y.merged e).2, y.places⟩) ⟨by (repeat (first | exact trivial | refine ⟨rfl, ?_⟩)), by (repeat (first | exact Subl.nil | refine Subl.cons (by (repeat (first | exact Take.here | apply Take.there))) ?_))⟩ ⟨⟨hil, hnx, by simp only; rw [hz]; exact hst, by simp only; rw [hz]; exact hfd⟩, by simp only; omega⟩
  · have hie : i = evl.length := by omega
    subst hie
    rw [List.take_length] at hin0 hy ⊢
    have hcl := h1.1.2.2
    have hout : (outL c evl).length ≤ 1000 := by
      have := List.length_filter_le (fun e : EvS => decide (¬ HasC c e.rep e.num)) evl
      unfold outL; omega
    have hF0 : compactF m ⟨b, evl, w⟩ c = (0, ⟨{ y with clock := c }, outL c evl, { w with merged := (outL c evl).foldl (mrg1 m) y.merged }⟩) := by
      refine (@if_neg _ (Classical.propDecidable _) (fun h9 => h9 h1) _ _ _).trans ((@if_neg _ (Classical.propDecidable _) (fun h9 => h9 ⟨h2, h3, hin0⟩) _ _ _).trans ?_)
      rw [cmpB, ← hy]
    rw [hF0]
    repeat' (first | refine Sp.h ?_ | refine Lk.r rfl ?_ | refine Rf.mk rfl ?_ | (apply Bd.f; (focus (first | assumption | omega | exact Bool.false_ne_true))) | fail)
    (refine Cl.use (hcc) (by repeat' (first | exact Lend.nil | apply Lend.keep | fail)) .nil rfl ?_; rintro _ _ ⟨_, rfl, rfl⟩)
    (repeat' (first | (show CA _ _ (Code.region 26 _ _) _ _; apply Stopped.out) | refine Sp.h ?_ | refine Lk.r rfl ?_ | refine Rf.mk rfl ?_ | (apply TkB.r; (focus (repeat (first | exact Take.here | apply Take.there)))) | (apply SetAk.r; (focus (repeat (first | assumption | exact SetA.z | apply SetA.s)))) | fail)); any_goals apply Stopped.mk
    (apply CA.own; (focus (apply OX.blk (b := b5); (focus (repeat (first | exact Take.here | apply Take.there))); (focus (repeat' (first | exact FX.nil | (apply FX.s1; (focus (repeat (first | exact Take.here | apply Take.there))); (focus first | omega | (simp; done) | (simp; omega))) | apply FX.k))); (focus (repeat (first | exact Take.here | apply Take.there))))))
    repeat' (first | refine Sp.h ?_ | refine Lk.r rfl ?_ | refine Rf.mk rfl ?_ | (apply TkA.r; (focus (repeat (first | exact Take.here | apply Take.there)))) | (apply TkB.r; (focus (repeat (first | exact Take.here | apply Take.there)))) | fail)
    refine CA.loop (fun x : Nat × List MgS => ⟨[(0, pm s), (5, pm b5), (6, .ow vr), (11, mgs x.2), (130, .ow vr), (131, it ((outL c evl).length : Nat)), (132, it x.1)], [stoR s m b v w, arrR v 37 13 evl evC, blkR b5 75 (basC { y with clock := c }), arrR vr 37 13 (outL c evl) evC]⟩)
      (fun x => x.1 ≤ (outL c evl).length ∧ SzM x.2 ∧ x.2 = ((outL c evl).take x.1).foldl (mrg1 m) y.merged) (fun x => (outL c evl).length - x.1) (0, y.merged) ⟨by (repeat (first | exact trivial | refine ⟨rfl, ?_⟩)), by (repeat (first | exact Subl.nil | refine Subl.cons (by (repeat (first | exact Take.here | apply Take.there))) ?_))⟩ ⟨Nat.zero_le _, hmid.mg, rfl⟩ ?_
    rintro ⟨j, k⟩ ⟨hj, hkz, hk⟩
    simp only at hj hkz hk
    simp only
    by_cases hjl : j < (outL c evl).length
    · obtain ⟨e, he⟩ := get_of hjl
      have hap := applyT_p m k e hm
      repeat' (first | refine Sp.h ?_ | refine Lk.r rfl ?_ | refine Rf.mk rfl ?_ | (apply Bd.t; (focus (first | assumption | omega | rfl))) | refine OpK.r rfl ?_ | (refine All.mk ?_; intro _) | (apply TkA.r; (focus (repeat (first | exact Take.here | apply Take.there)))) | (apply TkB.r; (focus (repeat (first | exact Take.here | apply Take.there)))) | (apply Ix.q; (focus exact rfl); (focus assumption)) | (apply At.r; (focus assumption)) | refine Ch.l ⟨rfl, rfl⟩ ?_ | refine Ch.r ?_ | (apply SetAsk.r; (focus (repeat (first | exact SetAs.z | (apply SetAs.c; (focus (repeat (first | assumption | exact SetA.z | apply SetA.s)))))))) | (apply Nm.r; (focus repeat (first | apply LN.cons | exact LN.nil))) | (apply CA.draw; (focus rfl); (focus kernel_rfl); (focus kernel_rfl); (focus repeat' (first | apply ON.one | exact ON.done | exact ON.none | apply ON.alt)); (focus rfl)) | (apply Ov.n; (focus first | omega | (simp <;> omega))) | fail | (apply Cl.p (hap); (focus repeat' (first | exact Lend.nil | apply Lend.keep | fail))))
      all_goals exact PA.lp (j + 1, mrg1 m k e) ⟨by (repeat (first | exact trivial | refine ⟨rfl, ?_⟩)), by (repeat (first | exact Subl.nil | refine Subl.cons (by (repeat (first | exact Take.here | apply Take.there))) ?_))⟩ ⟨⟨hjl, mrg1_sz hkz, by simp only; rw [List.take_add_one, he, Option.toList_some, List.foldl_append, ← hk]; rfl⟩, by simp only; omega⟩
    · have hje : j = (outL c evl).length := by omega
      subst hje
      rw [List.take_length] at hk
      have hcm := cloneM_p k (by have := hkz.1; omega) hkz.2
      rw [← hk]
      repeat' (first | refine Sp.h ?_ | refine Lk.r rfl ?_ | refine Rf.mk rfl ?_ | (apply Bd.f; (focus (first | assumption | omega | exact Bool.false_ne_true))) | refine OpK.r rfl ?_ | (apply TkB.r; (focus (repeat (first | exact Take.here | apply Take.there)))) | refine Ch.l ⟨rfl, rfl⟩ ?_ | (apply SetAk.r; (focus (repeat (first | assumption | exact SetA.z | apply SetA.s)))) | (apply SetAsk.r; (focus (repeat (first | exact SetAs.z | (apply SetAs.c; (focus (repeat (first | assumption | exact SetA.z | apply SetA.s)))))))) | (apply Nm.r; (focus repeat (first | apply LN.cons | exact LN.nil))) | (apply CA.draw; (focus rfl); (focus kernel_rfl); (focus kernel_rfl); (focus repeat' (first | apply ON.one | exact ON.done | exact ON.none | apply ON.alt)); (focus rfl)) | fail | (apply Cl.p (hcm); (focus repeat' (first | exact Lend.nil | apply Lend.keep | fail))))
      all_goals exact ⟨_, _, .one (.same (.nil (by (repeat (first | exact Subl.nil | refine Subl.cons (by (repeat (first | exact Take.here | apply Take.there))) ?_))))), rfl, vr, rfl⟩
end Go.Proofs.YtmllihbhphnolaaGreat
namespace Go.CF
open Go
/-- A field that is one cell: where it lies. -/
def fldE (tt : Nat → Option TI) (t i : Nat) : Option (Nat × Nat × TI) := match tt t with
  | some ti => match ti.kind with
    | .struct fs => match fs[i]? with
      | some (off, ft, _) => match tt ft with
        | some te => if te.kind.agg = false then some (off, ft, te) else none
        | none => none
      | none => none
    | _ => none
  | none => none
theorem fldE_spec {tt : Nat → Option TI} {t i : Nat} {p : Nat × Nat × TI} (h : fldE tt t i = some p) : ∃ ti fs sz, tt t = some ti ∧ ti.kind = .struct fs ∧ fs[i]? = some (p.1, p.2.1, sz) ∧ tt p.2.1 = some p.2.2 ∧ p.2.2.kind.agg = false := by
  unfold fldE at h
  split at h
  · rename_i ti h1
    split at h
    · rename_i fs h2
      split at h
      · rename_i off ft sz h3
        split at h
        · rename_i te h4
          split at h
          · rename_i h5
            cases h
            exact ⟨ti, fs, sz, h1, h2, h3, h4, h5⟩
          · cases h
        · cases h
      · cases h
    · cases h
  · cases h
section
variable {Γ : Cx} {k : List KI} {e : EA} {o : List Res} {N : NA} {c : Cls} {d : Tmp} {ty : TypeId} {x : Operand} {t : TypeId}
theorem St.field {P : Program} {tt : Nat → Option TI} {en : Nat → Bool} (G : PgOK P tt en) {γ : Type} [Membership Nat γ] {fp : γ} {n : Nat} {env : Env} {h : Heap} {N : Env → Heap → Prop} {i : Nat} {p : Nat × Nat × TI} {vs : List Value} {v : Value} (hp : fldE tt t i = some p)
    (hx : ev env x = some (.agg vs.toArray)) (hv : vs[p.1]? = some v) (k : N ((d, v) :: env) h) : St P n fp c (some d) (.field t x i) ty env h N :=
  .ofPu (v := v) (fun a w ha => by
    obtain ⟨ti, fs, sz, h1, h2, h3, h4, h5⟩ := fldE_spec hp
    obtain ⟨ff, hu, rfl⟩ := (G.ok _ _ h1).struct h2
    rw [List.getElem?_map] at h3
    obtain ⟨f, hf1, hf2⟩ := Option.map_eq_some_iff.1 h3
    simp only [Prod.mk.injEq] at hf2
    have hf3 : ff[i]? = some f := by simpa using hf1
    have hag := (G.ok _ _ h4).run_agg w h5
    rw [← hf2.2.1] at hag
    have hv2 : vs[f.offset]? = some v := by rw [hf2.1]; exact hv
    simp [mkOp, execOp, ha.ev hx, Instr.field, run_underlying hu, hf3, part, hag, asAgg, hv2]) k
instance {i : Nat} : Sp (SA Γ c (some d) (.field t x i) ty e o N) (Lk (evA e x) fun a => Ap1 Γ c d (.field t x i) ty e o N x a) := ⟨fun ⟨_, ha, h⟩ => h.h ha⟩
instance {i : Nat} {cs : List AV} : Sp (Ap1 Γ c d (.field t x i) ty e o N x (.agg cs)) (Lk (fldE Γ.tt t i) fun p => Lk cs[p.1]? fun a => N ((d, a) :: e) o) := ⟨fun ⟨p, hp, a, ha, hn⟩ => pu1 fun env h G v h1 h2 => by
  obtain ⟨vs, rfl, hr⟩ := h2
  obtain ⟨w, h3, h4⟩ := hr.t.get ha
  exact ⟨a, w, h4, hn, fun _ k => St.field Γ.ok hp h1 h3 k⟩⟩
end
end Go.CF
