/- Regions whose order is drawn: one walk along a chosen order serves every order. Generic over the program. -/
import Derived.Orders
namespace Go.CF
open Go

inductive Cls where
  | pure | read | ext | loud

section
variable {P : Program} {ops : Array Oper} {Q : Exit → Act → World → Prop}

/-- In the frame a, at every world of C, the operation yields v and leaves the world alone (or it is passed over). -/
def YOn (P : Program) (ops : Array Oper) (C : World → Prop) (o : Oper) (v : Value) (a : Act) : Prop :=
  (Region.wanted o (yielded ops a.tmps) = true ∧ ∀ w, C w → (execOp a.eval o).run P w = .ok (.value v) w) ∨
  (Region.wanted o (yielded ops a.tmps) = false ∧ v = undef)

theorem YOn.of_same {C : World → Prop} {o : Oper} {v : Value} {a a' : Act} (hy : YOn P ops C o v a) (he : execOp a'.eval o = execOp a.eval o)
    (hw : Region.wanted o (yielded ops a'.tmps) = Region.wanted o (yielded ops a.tmps)) : YOn P ops C o v a' := by
  unfold YOn at *
  rw [he, hw]
  exact hy

theorem YOn.mono {C C' : World → Prop} {o : Oper} {v : Value} {a : Act} (h : ∀ w, C' w → C w) (hy : YOn P ops C o v a) : YOn P ops C' o v a := by
  rcases hy with ⟨h1, h2⟩ | h1
  · exact .inl ⟨h1, fun w hw => h2 w (h w hw)⟩
  · exact .inr h1

theorem YOn.yields {o : Oper} {v : Value} {a : Act} (hy : YOn P ops (fun _ => True) o v a) : Yields P ops o v a := by
  rcases hy with ⟨h1, h2⟩ | h1
  · exact .inl ⟨h1, fun w => h2 w trivial⟩
  · exact .inr h1

theorem YOn.ofYields {o : Oper} {v : Value} {a : Act} (hy : Yields P ops o v a) : YOn P ops (fun _ => True) o v a := by
  rcases hy with ⟨h1, h2⟩ | h1
  · exact .inl ⟨h1, fun w _ => h2 w⟩
  · exact .inr h1

theorem YOn.wpOp {C : World → Prop} {i : Nat} {o : Oper} {v : Value} {a : Act} (hi : ops[i]? = some o) (hy : YOn P ops C o v a)
    {K : Act → World → Prop} {w : World} (hw : C w) (h : K (a.put o.dst v) w) : wpOp P ops Q i K a w := by
  unfold Go.wpOp
  simp only [hi]
  rcases hy with ⟨h1, h2⟩ | ⟨h1, rfl⟩
  · simp only [h1, if_true, Oper.wp, h2 w hw, Oper.upon]; exact .inl h
  · simp only [h1, Bool.false_eq_true, if_false]; exact h

/-- One operation, by its class: 'X' is what is kept while reads may still float. -/
def cOp (X : Array Obj → Array Obj → Prop) (P : Program) (ops : Array Oper) (cl : Nat → Cls) (Q : Exit → Act → World → Prop) (i : Nat) (K : Act → World → Prop) (a : Act) (w : World) : Prop :=
  match cl i with
  | .pure => ∃ o v, ops[i]? = some o ∧ YOn P ops (fun _ => True) o v a ∧ K (a.put o.dst v) w
  | .read => ∃ o v, ops[i]? = some o ∧ YOn P ops (fun w' => X w.heap w'.heap) o v a ∧ K (a.put o.dst v) w
  | .ext => wpOp P ops Q i (fun a' w' => X w.heap w'.heap ∧ K a' w') a w
  | .loud => wpOp P ops Q i K a w

variable {cl : Nat → Cls} {X : Array Obj → Array Obj → Prop}

theorem cOp_mono {i : Nat} {a : Act} {w : World} {K K' : Act → World → Prop} (h : ∀ a w, K a w → K' a w) (hh : cOp X P ops cl Q i K a w) : cOp X P ops cl Q i K' a w := by
  unfold cOp at *
  cases hc : cl i <;> simp only [hc] at hh ⊢
  · obtain ⟨o, v, h1, h2, h3⟩ := hh; exact ⟨o, v, h1, h2, h _ _ h3⟩
  · obtain ⟨o, v, h1, h2, h3⟩ := hh; exact ⟨o, v, h1, h2, h _ _ h3⟩
  · exact wpOp_mono (fun a w hk => ⟨hk.1, h _ _ hk.2⟩) hh
  · exact wpOp_mono h hh

theorem cOp_wp (hX : ∀ h, X h h) {i : Nat} {a : Act} {w : World} {K : Act → World → Prop} (hh : cOp X P ops cl Q i K a w) : wpOp P ops Q i K a w := by
  unfold cOp at hh
  split at hh
  · obtain ⟨o, v, h1, h2, h3⟩ := hh; exact h2.wpOp h1 trivial h3
  · obtain ⟨o, v, h1, h2, h3⟩ := hh; exact h2.wpOp h1 (hX _) h3
  · exact wpOp_mono (fun a w hk => hk.2) hh
  · exact hh

/-- Every order, by classes. -/
def RA (X : Array Obj → Array Obj → Prop) (P : Program) (ops : Array Oper) (cl : Nat → Cls) (Q : Exit → Act → World → Prop) : Nat → Array Bool → Act → World → Prop
  | 0, listed, a, w => Region.ready .any ops listed = [] ∧ Q .normal a w
  | fuel + 1, listed, a, w =>
    (Region.ready .any ops listed = [] → Q .normal a w) ∧
    ∀ i ∈ Region.ready .any ops listed, cOp X P ops cl Q i (RA X P ops cl Q fuel (listed.setIfInBounds i true)) a w

theorem RA_any (hX : ∀ h, X h h) : ∀ (fuel : Nat) (listed : Array Bool) (a : Act) (w : World), RA X P ops cl Q fuel listed a w → wpAny P .any ops Q fuel listed a w
  | 0, _, _, _, h => h
  | fuel + 1, _, _, _, h => ⟨h.1, fun i hi => wpOp_mono (fun a w => RA_any hX fuel _ a w) (cOp_wp hX (h.2 i hi))⟩

theorem YOn_put {C : World → Prop} {oi oj : Oper} {v u : Value} {a : Act} (hsi : ∀ cs b, oi.op ≠ .select cs b) (h3 : ∀ d, oj.dst = some d → d ∉ oi.looksAt ops)
    (hy : YOn P ops C oi v a) : YOn P ops C oi v (a.put oj.dst u) :=
  hy.of_same (execOp_put oi hsi a oj.dst u h3) (wanted_put oi a oj.dst u h3)

theorem YOn_unput {C : World → Prop} {oi oj : Oper} {v u : Value} {a : Act} (hsj : ∀ cs b, oj.op ≠ .select cs b) (h1 : ∀ d, oi.dst = some d → d ∉ oj.looksAt ops)
    (hy : YOn P ops C oj u (a.put oi.dst v)) : YOn P ops C oj u a :=
  hy.of_same (execOp_put oj hsj a oi.dst v h1).symm (wanted_put oj a oi.dst v h1).symm

/-- Operation oi sees the same in both frames. -/
def Alike (ops : Array Oper) (oi : Oper) (a a' : Act) : Prop :=
  execOp a'.eval oi = execOp a.eval oi ∧ Region.wanted oi (yielded ops a'.tmps) = Region.wanted oi (yielded ops a.tmps)

theorem wpOp_unput {j : Nat} {oi oj : Oper} {v : Value} (hj : ops[j]? = some oj) (hap : oi.apart ops oj = true)
    (hsi : ∀ cs b, oi.op ≠ .select cs b) (hsj : ∀ cs b, oj.op ≠ .select cs b)
    (hQ : ∀ c a w, Q (.panic c) (a.put oi.dst v) w → Q (.panic c) a w) {K : Act → World → Prop} {a : Act} {w : World}
    (h : wpOp P ops Q j K (a.put oi.dst v) w) : wpOp P ops Q j (fun a' w' => Alike ops oi a a' ∧ K (a'.put oi.dst v) w') a w := by
  obtain ⟨h1, h2, h3⟩ := Oper.apart_spec hap
  have keep : ∀ u, Alike ops oi a (a.put oj.dst u) := fun u => ⟨execOp_put oi hsi a oj.dst u h3, wanted_put oi a oj.dst u h3⟩
  have keepD : ∀ d u, Alike ops oi a (({ a with defers := d :: a.defers } : Act).put oj.dst u) := fun d u =>
    ⟨execOp_put oi hsi { a with defers := d :: a.defers } oj.dst u h3, wanted_put oi { a with defers := d :: a.defers } oj.dst u h3⟩
  have comm : ∀ u, K ((a.put oi.dst v).put oj.dst u) = K ((a.put oj.dst u).put oi.dst v) := fun u => by rw [Act.put_comm a v u h2]
  unfold wpOp at *
  simp only [hj] at *
  rw [wanted_put oj a oi.dst v h1] at h
  by_cases hw : Region.wanted oj (yielded ops a.tmps) = true
  · simp only [hw, if_true] at h ⊢
    rcases h with h | ⟨hasks, hlets⟩
    · refine .inl ?_
      unfold Oper.wp at *
      rw [execOp_put oj hsj a oi.dst v h1] at h
      generalize (execOp a.eval oj).run P w = r at *
      cases r with
      | ok n w' =>
        cases n with
        | value u => exact ⟨keep u, comm u ▸ h⟩
        | skip => exact ⟨keep _, comm undef ▸ h⟩
        | defer d =>
          simp only [Oper.upon] at h ⊢
          refine ⟨keepD d _, ?_⟩
          rw [← Act.put_comm _ v undef h2, ← Act.put_defers]
          exact h
        | enter f args =>
          refine Calls.mono h fun e w'' he => ?_
          cases e with
          | returned u => exact ⟨keep u, comm u ▸ he⟩
          | panicked c => exact hQ _ _ _ he
          | outgrown => exact he
        | row row args => exact Rows.mono h fun u w'' he => ⟨keep u, comm u ▸ he⟩
        | _ => exact h
      | halt x w' =>
        cases x with
        | panic u => exact hQ _ _ _ h
        | _ => exact h
    · exact .inr ⟨by unfold Oper.asks at *; rw [execOp_put oj hsj a oi.dst v h1] at hasks; exact hasks, hlets⟩
  · simp only [hw] at h ⊢
    exact ⟨keep undef, comm undef ▸ h⟩

theorem cOp_put {j : Nat} {oi oj : Oper} {v : Value} (hj : ops[j]? = some oj) (hap : oi.apart ops oj = true)
    (hsi : ∀ cs b, oi.op ≠ .select cs b) (hsj : ∀ cs b, oj.op ≠ .select cs b)
    (hQ : ∀ c a w, Q (.panic c) (a.put oi.dst v) w → Q (.panic c) a w) {K : Act → World → Prop} {a : Act} {w : World}
    (hy : YOn P ops (fun _ => True) oi v a) (h : cOp X P ops cl Q j K (a.put oi.dst v) w) :
    cOp X P ops cl Q j (fun a' w' => YOn P ops (fun _ => True) oi v a' ∧ K (a'.put oi.dst v) w') a w := by
  obtain ⟨h1, h2, h3⟩ := Oper.apart_spec hap
  unfold cOp at *
  split <;> rename_i hc <;> simp only [hc] at h
  · obtain ⟨o, u, ho, hu, hk⟩ := h
    rw [hj] at ho; cases ho
    exact ⟨oj, u, hj, YOn_unput hsj h1 hu, YOn_put hsi h3 hy, by rw [← Act.put_comm a v u h2]; exact hk⟩
  · obtain ⟨o, u, ho, hu, hk⟩ := h
    rw [hj] at ho; cases ho
    exact ⟨oj, u, hj, YOn_unput hsj h1 hu, YOn_put hsi h3 hy, by rw [← Act.put_comm a v u h2]; exact hk⟩
  · exact wpOp_mono (fun a' w' h => ⟨h.2.1, hy.of_same h.1.1 h.1.2, h.2.2⟩) (wpOp_unput hj hap hsi hsj hQ h)
  · exact wpOp_mono (fun a' w' h => ⟨hy.of_same h.1.1 h.1.2, h.2⟩) (wpOp_unput hj hap hsi hsj hQ h)

theorem cOp_put_read (hX : ∀ h, X h h) {j : Nat} {oi oj : Oper} {v : Value} (hj : ops[j]? = some oj) (hap : oi.apart ops oj = true)
    (hsi : ∀ cs b, oi.op ≠ .select cs b) (hsj : ∀ cs b, oj.op ≠ .select cs b) (hl : cl j ≠ .loud)
    (hQ : ∀ c a w, Q (.panic c) (a.put oi.dst v) w → Q (.panic c) a w) {K : Act → World → Prop} {a : Act} {w : World}
    (hy : YOn P ops (fun w' => X w.heap w'.heap) oi v a) (h : cOp X P ops cl Q j K (a.put oi.dst v) w) :
    cOp X P ops cl Q j (fun a' w' => X w.heap w'.heap ∧ YOn P ops (fun w'' => X w.heap w''.heap) oi v a' ∧ K (a'.put oi.dst v) w') a w := by
  obtain ⟨h1, h2, h3⟩ := Oper.apart_spec hap
  unfold cOp at *
  split <;> rename_i hc <;> simp only [hc] at h
  · obtain ⟨o, u, ho, hu, hk⟩ := h
    rw [hj] at ho; cases ho
    exact ⟨oj, u, hj, YOn_unput hsj h1 hu, hX _, YOn_put hsi h3 hy, by rw [← Act.put_comm a v u h2]; exact hk⟩
  · obtain ⟨o, u, ho, hu, hk⟩ := h
    rw [hj] at ho; cases ho
    exact ⟨oj, u, hj, YOn_unput hsj h1 hu, hX _, YOn_put hsi h3 hy, by rw [← Act.put_comm a v u h2]; exact hk⟩
  · exact wpOp_mono (fun a' w' h => ⟨h.2.1, h.2.1, hy.of_same h.1.1 h.1.2, h.2.2⟩) (wpOp_unput hj hap hsi hsj hQ h)
  · exact absurd hc hl

theorem not_waits {i : Nat} {oj : Oper} {listed : Array Bool} (hr : i ∈ Region.ready .any ops listed) (hall : ∀ e ∈ oj.after, Region.binds .any e = true → listed.getD e.on false = true) :
    ∀ e ∈ oj.after, Region.binds .any e = true → e.on ≠ i := fun e he hb heq => by
  have h1 := hall e he hb
  have h0 := (mem_ready.1 hr).1
  rw [heq] at h1
  rcases Nat.lt_or_ge i listed.size with h' | h'
  · simp [h'] at h0 h1; rw [h0] at h1; cases h1
  · simp [Array.getElem?_eq_none h'] at h1

/-- An operation that depends on nothing in memory may be taken first. -/
theorem RA_first_pure {i : Nat} {oi : Oper} {v : Value} (hi : ops[i]? = some oi) (hc : cl i = .pure) (hsel : ∀ (j : Nat) (o : Oper) cs b, ops[j]? = some o → o.op ≠ .select cs b)
    (hQ : ∀ c a w, Q (.panic c) (a.put oi.dst v) w → Q (.panic c) a w) :
    ∀ (fuel : Nat) (listed : Array Bool) (a : Act) (w : World),
      (∀ j oj, ops[j]? = some oj → j ≠ i → listed.getD j true = false → (∀ e ∈ oj.after, Region.binds .any e = true → e.on ≠ i) → oi.apart ops oj = true) →
      i ∈ Region.ready .any ops listed → YOn P ops (fun _ => True) oi v a →
      RA X P ops cl Q fuel (listed.setIfInBounds i true) (a.put oi.dst v) w → RA X P ops cl Q (fuel + 1) listed a w := by
  intro fuel
  induction fuel with
  | zero =>
    intro listed a w _ hr hy H
    refine ⟨fun h => (by rw [h] at hr; cases hr), fun j hj => ?_⟩
    by_cases hji : j = i
    · subst hji; unfold cOp; simp only [hc]; exact ⟨oi, v, hi, hy, H⟩
    · have := ready_mono hj hji
      rw [H.1] at this
      cases this
  | succ fuel ih =>
    intro listed a w hfree hr hy H
    refine ⟨fun h => (by rw [h] at hr; cases hr), fun j hj => ?_⟩
    by_cases hji : j = i
    · subst hji; unfold cOp; simp only [hc]; exact ⟨oi, v, hi, hy, H⟩
    · have h1 := H.2 j (ready_mono hj hji)
      obtain ⟨hjun, oj, hoj, hall⟩ := mem_ready.1 hj
      have h2 := cOp_put hoj (hfree j oj hoj hji hjun (not_waits hr hall)) (fun cs b => hsel i oi cs b hi) (fun cs b => hsel j oj cs b hoj) hQ hy h1
      have hfree' : ∀ k ok, ops[k]? = some ok → k ≠ i → (listed.setIfInBounds j true).getD k true = false →
          (∀ e ∈ ok.after, Region.binds .any e = true → e.on ≠ i) → oi.apart ops ok = true := fun k ok hk hki hun hno => by
        refine hfree k ok hk hki ?_ hno
        by_cases hjk : j = k
        · subst hjk; exact hjun
        · rw [getD_set_ne true hjk] at hun; exact hun
      refine cOp_mono (fun a' w' h3 => ih (listed.setIfInBounds j true) a' w' hfree' (ready_mono hr (Ne.symm hji)) h3.1 ?_) h2
      rw [Array.setIfInBounds_comm _ _ hji]
      exact h3.2

/-- What is listed is closed under what it waits for. -/
def Closed (ops : Array Oper) (listed : Array Bool) : Prop :=
  ∀ j oj, ops[j]? = some oj → listed.getD j false = true → ∀ e ∈ oj.after, Region.binds .any e = true → listed.getD e.on false = true

theorem Closed.set {listed : Array Bool} {i : Nat} (h : Closed ops listed) (hr : i ∈ Region.ready .any ops listed) : Closed ops (listed.setIfInBounds i true) := by
  intro j oj hj hl e he hb
  by_cases hij : i = j
  · subst hij
    obtain ⟨_, o, ho, hall⟩ := mem_ready.1 hr
    rw [hj] at ho; cases ho
    exact getD_set_true (hall e he hb)
  · rw [getD_set_ne false hij] at hl
    exact getD_set_true (h j oj hj hl e he hb)

/-- Does j wait for i, in at most n links? -/
def waitsB (ops : Array Oper) (i : Nat) : Nat → Nat → Bool
  | 0, _ => false
  | n + 1, j => match ops[j]? with
    | some oj => (oj.after.any fun e => e.on == i && Region.binds .any e) || oj.after.any fun e => Nat.blt i e.on && Region.binds .any e && waitsB ops i n e.on
    | none => false

theorem waits_listed {listed : Array Bool} (hcl : Closed ops listed) {i : Nat} : ∀ (n j : Nat) (oj : Oper), ops[j]? = some oj → waitsB ops i n j = true →
    (∀ e ∈ oj.after, Region.binds .any e = true → listed.getD e.on false = true) → listed.getD i false = true
  | 0, _, _, _, h, _ => by simp [waitsB] at h
  | n + 1, j, oj, hj, h, hall => by
    simp only [waitsB, hj, Bool.or_eq_true] at h
    rcases h with h | h
    · obtain ⟨e, he, hb⟩ := Array.any_eq_true'.1 h
      simp only [Bool.and_eq_true, beq_iff_eq] at hb
      rw [← hb.1]
      exact hall e he hb.2
    · obtain ⟨e, he, hb⟩ := Array.any_eq_true'.1 h
      simp only [Bool.and_eq_true] at hb
      obtain ⟨⟨_, hb1⟩, hb2⟩ := hb
      have hle := hall e he hb1
      cases ho : ops[e.on]? with
      | none =>
        cases n with
        | zero => simp [waitsB] at hb2
        | succ n => simp [waitsB, ho] at hb2
      | some oe => exact waits_listed hcl n e.on oe ho hb2 (fun e' he' hb' => hcl e.on oe ho hle e' he' hb')

/-- An operation that only reads may be taken first, where all that write wait for it. -/
theorem RA_first_read (hX : ∀ h, X h h) (hT : ∀ a b c, X a b → X b c → X a c) {i : Nat} {oi : Oper} {v : Value} (hi : ops[i]? = some oi) (hc : cl i = .read) (hsel : ∀ (j : Nat) (o : Oper) cs b, ops[j]? = some o → o.op ≠ .select cs b)
    (hQ : ∀ c a w, Q (.panic c) (a.put oi.dst v) w → Q (.panic c) a w) :
    ∀ (fuel : Nat) (listed : Array Bool) (a : Act) (w : World), Closed ops listed →
      (∀ j oj, ops[j]? = some oj → j ≠ i → listed.getD j true = false → (∀ e ∈ oj.after, Region.binds .any e = true → e.on ≠ i) → oi.apart ops oj = true) →
      (∀ j oj, ops[j]? = some oj → listed.getD j true = false → cl j = .loud → waitsB ops i ops.size j = true) →
      i ∈ Region.ready .any ops listed → YOn P ops (fun w' => X w.heap w'.heap) oi v a →
      RA X P ops cl Q fuel (listed.setIfInBounds i true) (a.put oi.dst v) w → RA X P ops cl Q (fuel + 1) listed a w := by
  intro fuel
  induction fuel with
  | zero =>
    intro listed a w _ _ _ hr hy H
    refine ⟨fun h => (by rw [h] at hr; cases hr), fun j hj => ?_⟩
    by_cases hji : j = i
    · subst hji; unfold cOp; simp only [hc]; exact ⟨oi, v, hi, hy, H⟩
    · have := ready_mono hj hji
      rw [H.1] at this
      cases this
  | succ fuel ih =>
    intro listed a w hcl hfree hw hr hy H
    refine ⟨fun h => (by rw [h] at hr; cases hr), fun j hj => ?_⟩
    by_cases hji : j = i
    · subst hji; unfold cOp; simp only [hc]; exact ⟨oi, v, hi, hy, H⟩
    · have h1 := H.2 j (ready_mono hj hji)
      obtain ⟨hjun, oj, hoj, hall⟩ := mem_ready.1 hj
      have hnl : cl j ≠ .loud := fun hl => by
        have h3 := waits_listed hcl _ j oj hoj (hw j oj hoj hjun hl) hall
        have h0 := (mem_ready.1 hr).1
        rcases Nat.lt_or_ge i listed.size with h' | h'
        · simp [h'] at h0 h3; rw [h0] at h3; cases h3
        · simp [Array.getElem?_eq_none h'] at h3
      have h2 := cOp_put_read hX hoj (hfree j oj hoj hji hjun (not_waits hr hall)) (fun cs b => hsel i oi cs b hi) (fun cs b => hsel j oj cs b hoj) hnl hQ hy h1
      have hun' : ∀ k, (listed.setIfInBounds j true).getD k true = false → listed.getD k true = false := fun k hun => by
        by_cases hjk : j = k
        · subst hjk; exact hjun
        · rw [getD_set_ne true hjk] at hun; exact hun
      refine cOp_mono (fun a' w' h3 => ?_) h2
      obtain ⟨hx, h3, h4⟩ := h3
      refine ih (listed.setIfInBounds j true) a' w' (hcl.set hj) (fun k ok hk hki hun hno => hfree k ok hk hki (hun' k hun) hno) (fun k ok hk hun => hw k ok hk (hun' k hun)) (ready_mono hr (Ne.symm hji)) (h3.mono fun w'' hx' => hT _ _ _ hx hx') ?_
      rw [Array.setIfInBounds_comm _ _ hji]
      exact h4

/-! ### The order that is walked -/
inductive Ord where
  | done
  | one (i : Nat) (r : Ord)
  | alt (i : Nat) (ri more : Ord)
  | none

def Ord.heads : Ord → List Nat
  | .alt i _ m => i :: m.heads
  | _ => []

def isLoud : Cls → Bool | .loud => true | _ => false
def acts : Cls → Bool | .loud => true | .ext => true | _ => false

/-- What is asked of the order: a matter of the region's text alone. -/
def chk (ops : Array Oper) (cl : Nat → Cls) : Ord → Nat → Bool → Array Bool → Bool
  | .done, _, top, listed => top && (Region.ready .any ops listed).isEmpty
  | .one i r, fuel + 1, top, listed => top &&
    (match cl i with
      | .pure => (Region.ready .any ops listed).contains i && Region.free .any ops listed i
      | .read => (Region.ready .any ops listed).contains i && Region.free .any ops listed i &&
          (List.range ops.size).all fun j => listed.getD j true || !isLoud (cl j) || waitsB ops i ops.size j
      | _ => Region.ready .any ops listed == [i]) && chk ops cl r fuel true (listed.setIfInBounds i true)
  | .alt i ri m, fuel + 1, top, listed => (!top || Region.ready .any ops listed == i :: m.heads) && acts (cl i) && chk ops cl ri fuel true (listed.setIfInBounds i true) && chk ops cl m (fuel + 1) false listed
  | .none, _, top, _ => !top
  | _, 0, _, _ => false

/-- The walk along it. -/
def TW (X : Array Obj → Array Obj → Prop) (P : Program) (ops : Array Oper) (cl : Nat → Cls) (Q : Exit → Act → World → Prop) : Ord → Act → World → Prop
  | .done, a, w => Q .normal a w
  | .one i r, a, w => cOp X P ops cl Q i (TW X P ops cl Q r) a w
  | .alt i ri m, a, w => cOp X P ops cl Q i (TW X P ops cl Q ri) a w ∧ TW X P ops cl Q m a w
  | .none, _, _ => True

theorem RA_done {listed : Array Bool} {a : Act} {w : World} (hr : Region.ready .any ops listed = []) (h : Q .normal a w) :
    ∀ fuel, RA X P ops cl Q fuel listed a w
  | 0 => ⟨hr, h⟩
  | _ + 1 => ⟨fun _ => h, by rw [hr]; simp⟩

theorem TW_RA (hX : ∀ h, X h h) (hT : ∀ a b c, X a b → X b c → X a c) (hs : Region.noSelect ops = true) (hQ : ∀ c a d v w, Q (.panic c) (a.put d v) w → Q (.panic c) a w) : ∀ (t : Ord) (fuel : Nat) (listed : Array Bool) (a : Act) (w : World),
    Closed ops listed →
    (chk ops cl t fuel true listed = true → TW X P ops cl Q t a w → RA X P ops cl Q fuel listed a w) ∧
    (∀ f, fuel = f + 1 → chk ops cl t fuel false listed = true → (∀ i ∈ t.heads, i ∈ Region.ready .any ops listed) → TW X P ops cl Q t a w →
      ∀ i ∈ t.heads, cOp X P ops cl Q i (RA X P ops cl Q f (listed.setIfInBounds i true)) a w)
  | .done, fuel, listed, a, w, _ => by
    refine ⟨fun h hw => ?_, fun f _ h => by simp [chk] at h⟩
    simp only [chk, Bool.true_and, List.isEmpty_iff] at h
    exact RA_done h hw fuel
  | .none, fuel, listed, a, w, _ => by
    refine ⟨fun h => by simp [chk] at h, fun f _ _ _ _ i hi => by simp [Ord.heads] at hi⟩
  | .one i r, 0, listed, a, w, _ => ⟨fun h => by simp [chk] at h, fun f hf => by omega⟩
  | .alt i ri m, 0, listed, a, w, _ => ⟨fun h => by simp [chk] at h, fun f hf => by omega⟩
  | .one i r, fuel + 1, listed, a, w, hcl => by
    refine ⟨fun h hw => ?_, fun f _ h => by simp [chk] at h⟩
    simp only [chk, Bool.true_and, Bool.and_eq_true] at h
    obtain ⟨h1, h2⟩ := h
    simp only [TW] at hw
    cases hc : cl i <;> simp only [hc] at h1
    · simp only [Bool.and_eq_true, List.contains_iff_mem] at h1
      obtain ⟨hr, hf⟩ := h1
      unfold cOp at hw
      simp only [hc] at hw
      obtain ⟨oi, v, hi, hy, hk⟩ := hw
      exact RA_first_pure hi hc (Region.noSelect_spec hs) (fun c a w => hQ c a _ _ w) fuel listed a w (Region.free_spec hi hf) hr hy
        ((TW_RA hX hT hs hQ r fuel _ _ _ (hcl.set hr)).1 h2 hk)
    · simp only [Bool.and_eq_true, List.contains_iff_mem] at h1
      obtain ⟨⟨hr, hf⟩, hl⟩ := h1
      unfold cOp at hw
      simp only [hc] at hw
      obtain ⟨oi, v, hi, hy, hk⟩ := hw
      refine RA_first_read hX hT hi hc (Region.noSelect_spec hs) (fun c a w => hQ c a _ _ w) fuel listed a w hcl (Region.free_spec hi hf) (fun j oj hj hun hlo => ?_) hr hy
        ((TW_RA hX hT hs hQ r fuel _ _ _ (hcl.set hr)).1 h2 hk)
      have h3 := List.all_eq_true.1 hl j (List.mem_range.2 (Array.getElem?_eq_some_iff.1 hj).1)
      simpa [hun, hlo, isLoud] using h3
    all_goals
      simp only [beq_iff_eq] at h1
      have hr : i ∈ Region.ready .any ops listed := by rw [h1]; simp
      refine ⟨fun h0 => (by rw [h1] at h0; cases h0), fun j hj => ?_⟩
      rw [h1] at hj
      simp only [List.mem_singleton] at hj
      subst hj
      exact cOp_mono (fun a' w' hk => (TW_RA hX hT hs hQ r fuel _ a' w' (hcl.set hr)).1 h2 hk) hw
  | .alt i ri m, fuel + 1, listed, a, w, hcl => by
    refine ⟨fun h hw => ?_, fun f hf h hall hw j hj => ?_⟩
    · simp only [chk, Bool.and_eq_true, Bool.not_true, Bool.false_or, beq_iff_eq] at h
      obtain ⟨⟨⟨h1, _⟩, h2⟩, h3⟩ := h
      simp only [TW] at hw
      have hr : i ∈ Region.ready .any ops listed := by rw [h1]; simp
      refine ⟨fun h0 => (by rw [h1] at h0; cases h0), fun j hj => ?_⟩
      rw [h1] at hj
      rcases List.mem_cons.1 hj with rfl | hj
      · exact (cOp_mono (fun a' w' hk => (TW_RA hX hT hs hQ ri fuel _ a' w' (hcl.set hr)).1 h2 hk) hw.1)
      · exact (TW_RA hX hT hs hQ m (fuel + 1) listed a w hcl).2 fuel rfl h3 (fun k hk => by rw [h1]; exact List.mem_cons_of_mem _ hk) hw.2 j hj
    · simp only [chk, Bool.and_eq_true, Bool.not_false, Bool.true_or, true_and] at h
      obtain ⟨⟨_, h2⟩, h3⟩ := h
      cases hf
      simp only [TW] at hw
      simp only [Ord.heads, List.mem_cons] at hj hall
      rcases hj with rfl | hj
      · exact (cOp_mono (fun a' w' hk => (TW_RA hX hT hs hQ ri fuel _ a' w' (hcl.set (hall _ (.inl rfl)))).1 h2 hk) hw.1)
      · exact (TW_RA hX hT hs hQ m (fuel + 1) listed a w hcl).2 fuel rfl h3 (fun k hk => hall k (.inr hk)) hw.2 j hj

/-- A region that draws its order: one walk along an order that fits. -/
theorem wp_region_ord (hX : ∀ h, X h h) (hT : ∀ a b c, X a b → X b c → X a c) {id : Nat} {a : Act} {w : World} (t : Ord) (cl : Nat → Cls) (hm : P.follows .mixedOrders = true) (hs : Region.noSelect ops = true)
    (hc : chk ops cl t ops.size true (Array.replicate ops.size false) = true) (hQ : ∀ c a d v w, Q (.panic c) (a.put d v) w → Q (.panic c) a w)
    (h : TW X P ops cl Q t a { w with drawn := w.drawn + 1 }) : (Code.region id ops true).wp P Q a w := by
  refine wp_region_any hm (RA_any hX _ _ _ _ ((TW_RA hX hT hs hQ t ops.size _ a _ ?_).1 hc h))
  intro j oj hj hl
  have hlt : j < ops.size := (Array.getElem?_eq_some_iff.1 hj).1
  simp [hlt] at hl
end
end Go.CF
