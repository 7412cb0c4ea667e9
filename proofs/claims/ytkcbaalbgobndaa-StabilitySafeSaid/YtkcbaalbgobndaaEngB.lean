/- Walks over heaps: the judgements, and the rules of control. Generic over the program. -/
import Derived.Tactics
import Derived.Test.YtkcbaalbgobndaaEngA
namespace Go.CF
open Go

abbrev Heap := Array Obj
abbrev Env := List (Nat × Value)

def look : Env → Nat → Option Value
  | [], _ => none
  | (k, v) :: r, t => bif Nat.beq k t then some v else look r t

def ev (e : Env) : Operand → Option Value
  | .tmp t => look e t
  | .const v => some v
  | .global g => some (.pointer (some ⟨g, 0, none⟩))
  | .func f => some (.func (.func f) #[] #[])

def evs (e : Env) : List Operand → Option (List Value)
  | [] => some []
  | x :: r => match ev e x, evs e r with
    | some v, some l => some (v :: l)
    | _, _ => none

def putE (e : Env) : Option Tmp → Value → Env
  | some d, v => (d, v) :: e
  | none, _ => e

def dOK (n : Nat) : Option Tmp → Bool
  | some d => Nat.blt d n
  | none => true

structure Agree (n : Nat) (e : Env) (a : Act) : Prop where
  size : a.tmps.size = n
  dfr : a.defers = []
  val : ∀ t v, look e t = some v → a.tmps[t]? = some v

theorem ne_of_beq {a b : Nat} (h : Nat.beq a b = false) : a ≠ b := fun e => by subst e; rw [Nat.beq_refl] at h; cases h
theorem beq_of_ne {a b : Nat} (h : a ≠ b) : Nat.beq a b = false := by
  cases hb : Nat.beq a b with
  | false => rfl
  | true => exact absurd (Nat.eq_of_beq_eq_true hb) h

theorem look_cons (k : Nat) (v : Value) (r : Env) (t : Nat) : look ((k, v) :: r) t = if k = t then some v else look r t := by
  simp only [look]
  by_cases h : k = t
  · subst h; simp
  · have : Nat.beq k t = false := beq_of_ne h
    simp [this, h]

theorem Agree.ev {n : Nat} {e : Env} {a : Act} (h : Agree n e a) {x : Operand} {v : Value} (hx : CF.ev e x = some v) : a.eval x = v := by
  cases x with
  | tmp t =>
    have := h.val t v hx
    simp [Act.eval, this]
  | const u => simp only [CF.ev, Option.some.injEq] at hx; exact hx
  | global g => simp only [CF.ev, Option.some.injEq] at hx; exact hx
  | func f => simp only [CF.ev, Option.some.injEq] at hx; exact hx

theorem Agree.evs {n : Nat} {e : Env} {a : Act} (h : Agree n e a) : ∀ {xs : List Operand} {vs : List Value}, CF.evs e xs = some vs → xs.map a.eval = vs
  | [], vs, hx => by simp only [CF.evs, Option.some.injEq] at hx; simp [hx]
  | x :: r, vs, hx => by
    simp only [CF.evs] at hx
    split at hx
    · rename_i v l h1 h2
      simp only [Option.some.injEq] at hx
      subst hx
      simp [h.ev h1, h.evs h2]
    · cases hx

theorem Agree.put {n : Nat} {e : Env} {a : Act} (h : Agree n e a) {d : Option Tmp} (hd : dOK n d = true) (v : Value) : Agree n (putE e d v) (a.put d v) := by
  cases d with
  | none => exact h
  | some d =>
    simp only [dOK, Nat.blt_eq] at hd
    refine ⟨by simp [Act.put, h.size], h.dfr, fun t u hu => ?_⟩
    simp only [putE, look_cons] at hu
    simp only [Act.put, Array.getElem?_setIfInBounds, h.size]
    by_cases hdt : d = t
    · subst hdt; simp at hu; subst hu; simp [hd]
    · simp only [hdt, if_false] at hu ⊢; exact h.val t u hu

/-- e1 says nothing that e2 does not say. -/
def subE : Env → Env → Prop
  | [], _ => True
  | (t, v) :: r, e => look e t = some v ∧ subE r e

theorem look_sub : ∀ {e1 e2 : Env}, subE e1 e2 → ∀ t v, look e1 t = some v → look e2 t = some v
  | [], _, _, _, _, h => by simp [look] at h
  | (k, u) :: r, e2, hs, t, v, h => by
    rw [look_cons] at h
    by_cases hk : k = t
    · subst hk; simp at h; subst h; exact hs.1
    · simp only [hk, if_false] at h; exact look_sub hs.2 t v h

theorem Agree.sub {n : Nat} {e1 e2 : Env} {a : Act} (h : Agree n e2 a) (hs : subE e1 e2) : Agree n e1 a :=
  ⟨h.size, h.dfr, fun t v hv => h.val t v (look_sub hs t v hv)⟩

/-- Off the blocks fp, nothing that was there has turned. -/
structure Stp (fp : List Nat) (h h' : Heap) : Prop where
  size : h.size ≤ h'.size
  same : ∀ b, b < h.size → b ∉ fp → h'[b]? = h[b]?
theorem Stp.refl {fp : List Nat} (h : Heap) : Stp fp h h := ⟨Nat.le_refl _, fun _ _ _ => rfl⟩
theorem Stp.trans {fp : List Nat} {h h' h'' : Heap} (x : Stp fp h h') (y : Stp fp h' h'') : Stp fp h h'' :=
  ⟨Nat.le_trans x.size y.size, fun b hb hn => (y.same b (Nat.lt_of_lt_of_le hb x.size) hn).trans (x.same b hb hn)⟩

structure Same (w w' : World) : Prop where
  os : w'.os = w.os
  tape : w'.tape = w.tape
  output : w'.output = w.output

theorem Same.refl (w : World) : Same w w := ⟨rfl, rfl, rfl⟩
theorem Same.trans {a b c : World} (h : Same a b) (k : Same b c) : Same a c := ⟨k.os.trans h.os, k.tape.trans h.tape, k.output.trans h.output⟩

/-- What is asked of a world's frame, said of environments and heaps. -/
def lift (n : Nat) (w0 : World) (Q : Exit → Env → Heap → Prop) : Exit → Act → World → Prop
  | .panic _, _, _ => False
  | .outgrown, _, _ => False
  | .normal, a, w => Same w0 w ∧ ∃ e, Agree n e a ∧ Q .normal e w.heap
  | .ret, a, w => Same w0 w ∧ ∃ e, Agree n e a ∧ Q .ret e w.heap
  | .exit i, a, w => Same w0 w ∧ ∃ e, Agree n e a ∧ Q (.exit i) e w.heap
  | .goto i, a, w => Same w0 w ∧ ∃ e, Agree n e a ∧ Q (.goto i) e w.heap

theorem lift_mono {n : Nat} {w0 w1 : World} {Q : Exit → Env → Heap → Prop} (hs : Same w0 w1) : ∀ e a w, lift n w1 Q e a w → lift n w0 Q e a w := by
  intro e a w h
  cases e <;> simp only [lift] at h ⊢ <;> exact ⟨hs.trans h.1, h.2⟩

theorem lift_imp {n : Nat} {w0 : World} {Q Q' : Exit → Env → Heap → Prop} (hq : ∀ e env h, Q e env h → Q' e env h) : ∀ e a w, lift n w0 Q e a w → lift n w0 Q' e a w := by
  intro e a w h
  cases e <;> simp only [lift] at h ⊢ <;> exact ⟨h.1, let ⟨env, h1, h2⟩ := h.2; ⟨env, h1, hq _ _ _ h2⟩⟩

/-- The code, from an environment and a heap. -/
structure CW (P : Program) (n : Nat) (c : Code) (Q : Exit → Env → Heap → Prop) (env : Env) (h : Heap) : Prop where
  run : ∀ a w, Agree n env a → w.heap = h → c.wp P (lift n w Q) a w

/-- What stands behind a piece of code. -/
inductive KI where
  | code (c : Code)
  | blk (id : Nat)
  | lp (I : Env → Heap → Prop)

def PK (P : Program) (n : Nat) (R : Env → Heap → Prop) : List KI → Exit → Env → Heap → Prop
  | [], .normal, env, h => R env h
  | [], .ret, env, h => R env h
  | [], _, _, _ => False
  | .code c :: k, .normal, env, h => CW P n c (PK P n R k) env h
  | .blk _ :: k, .normal, env, h => PK P n R k .normal env h
  | .lp I :: _, .normal, env, h => I env h
  | .blk id :: k, .exit i, env, h => if i = id then PK P n R k .normal env h else PK P n R k (.exit i) env h
  | .code _ :: k, e, env, h => PK P n R k e env h
  | .blk _ :: k, e, env, h => PK P n R k e env h
  | .lp _ :: k, e, env, h => PK P n R k e env h

section
variable {P : Program} {n : Nat} {R : Env → Heap → Prop} {k : List KI} {env : Env} {h : Heap}

theorem PK.nil_normal (hr : R env h) : PK P n R [] .normal env h := hr
theorem PK.nil_ret (hr : R env h) : PK P n R [] .ret env h := hr
theorem PK.code_normal {c : Code} (hr : CW P n c (PK P n R k) env h) : PK P n R (.code c :: k) .normal env h := hr
theorem PK.blk_normal {id : Nat} (hr : PK P n R k .normal env h) : PK P n R (.blk id :: k) .normal env h := hr
theorem PK.lp_normal {I : Env → Heap → Prop} (hr : I env h) : PK P n R (.lp I :: k) .normal env h := hr
theorem PK.code_ret {c : Code} (hr : PK P n R k .ret env h) : PK P n R (.code c :: k) .ret env h := hr
theorem PK.blk_ret {id : Nat} (hr : PK P n R k .ret env h) : PK P n R (.blk id :: k) .ret env h := hr
theorem PK.lp_ret {I : Env → Heap → Prop} (hr : PK P n R k .ret env h) : PK P n R (.lp I :: k) .ret env h := hr
theorem PK.code_exit {c : Code} {i : Nat} (hr : PK P n R k (.exit i) env h) : PK P n R (.code c :: k) (.exit i) env h := hr
theorem PK.lp_exit {I : Env → Heap → Prop} {i : Nat} (hr : PK P n R k (.exit i) env h) : PK P n R (.lp I :: k) (.exit i) env h := hr
theorem PK.blk_exit {id : Nat} (hr : PK P n R k .normal env h) : PK P n R (.blk id :: k) (.exit id) env h := by
  show (if id = id then _ else _)
  rw [if_pos rfl]; exact hr
theorem PK.blk_exit_ne {id i : Nat} (hn : Nat.beq i id = false) (hr : PK P n R k (.exit i) env h) : PK P n R (.blk id :: k) (.exit i) env h := by
  show (if i = id then _ else _)
  rw [if_neg (ne_of_beq hn)]; exact hr

theorem PK.sub : ∀ {k : List KI} {e : Exit} {env env' : Env} {h : Heap}, (∀ e1 e2 h, subE e1 e2 → R e1 h → R e2 h) → (∀ I, .lp I ∈ k → ∀ e1 e2 h, subE e1 e2 → I e1 h → I e2 h) →
    subE env env' → PK P n R k e env h → PK P n R k e env' h
  | [], e, env, env', h, hR, _, hs, hp => by
    cases e <;> simp only [PK] at hp ⊢ <;> exact hR _ _ _ hs hp
  | .code c :: k, e, env, env', h, hR, hI, hs, hp => by
    cases e <;> simp only [PK] at hp ⊢
    case normal => exact ⟨fun a w ha hw => hp.run a w (ha.sub hs) hw⟩
    all_goals exact PK.sub hR (fun I hm => hI I (List.mem_cons_of_mem _ hm)) hs hp
  | .blk i :: k, e, env, env', h, hR, hI, hs, hp => by
    cases e <;> simp only [PK] at hp ⊢
    case exit j =>
      split
      · rename_i hji; rw [if_pos hji] at hp; exact PK.sub hR (fun I hm => hI I (List.mem_cons_of_mem _ hm)) hs hp
      · rename_i hji; rw [if_neg hji] at hp; exact PK.sub hR (fun I hm => hI I (List.mem_cons_of_mem _ hm)) hs hp
    all_goals exact PK.sub hR (fun I hm => hI I (List.mem_cons_of_mem _ hm)) hs hp
  | .lp I :: k, e, env, env', h, hR, hI, hs, hp => by
    cases e <;> simp only [PK] at hp ⊢
    case normal => exact hI I List.mem_cons_self _ _ _ hs hp
    all_goals exact PK.sub hR (fun I hm => hI I (List.mem_cons_of_mem _ hm)) hs hp

theorem CW.forget {c : Code} {Q : Exit → Env → Heap → Prop} {env' : Env} (hs : subE env' env) (hc : CW P n c Q env' h) : CW P n c Q env h :=
  ⟨fun a w ha hw => hc.run a w (ha.sub hs) hw⟩

theorem CW.mono {c : Code} {Q Q' : Exit → Env → Heap → Prop} (hq : ∀ e env h, Q e env h → Q' e env h) (hc : CW P n c Q env h) : CW P n c Q' env h :=
  ⟨fun a w ha hw => wp_mono (hc.run a w ha hw) (fun e a w => lift_imp hq e a w)⟩

theorem CW.seq {x y : Code} (hx : CW P n x (PK P n R (.code y :: k)) env h) : CW P n (.seq x y) (PK P n R k) env h := by
  refine ⟨fun a w ha hw => wp_seq (wp_mono (hx.run a w ha hw) fun e a1 w1 hl => ?_)⟩
  cases e <;> simp only [lift, Exit.then] at hl ⊢
  case normal =>
    obtain ⟨hs, e1, ha1, hq⟩ := hl
    exact wp_mono ((show CW P n y (PK P n R k) e1 w1.heap from hq).run a1 w1 ha1 rfl) (lift_mono hs)
  all_goals exact hl

theorem CW.skip (hk : PK P n R k .normal env h) : CW P n .skip (PK P n R k) env h :=
  ⟨fun _ w ha hw => wp_skip ⟨Same.refl w, env, ha, hw ▸ hk⟩⟩
theorem CW.label {l : Nat} (hk : PK P n R k .normal env h) : CW P n (.label l) (PK P n R k) env h :=
  ⟨fun _ w ha hw => wp_label ⟨Same.refl w, env, ha, hw ▸ hk⟩⟩
theorem CW.ret (hk : PK P n R k .ret env h) : CW P n .ret (PK P n R k) env h :=
  ⟨fun _ w ha hw => wp_ret ⟨Same.refl w, env, ha, hw ▸ hk⟩⟩
theorem CW.exit {i : Nat} (hk : PK P n R k (.exit i) env h) : CW P n (.exit i) (PK P n R k) env h :=
  ⟨fun _ w ha hw => wp_exit ⟨Same.refl w, env, ha, hw ▸ hk⟩⟩

theorem CW.block {id : Nat} {c : Code} (hc : CW P n c (PK P n R (.blk id :: k)) env h) : CW P n (.block id c) (PK P n R k) env h := by
  refine ⟨fun a w ha hw => wp_block (wp_mono (hc.run a w ha hw) fun e a1 w1 hl => ?_)⟩
  cases e <;> simp only [lift, Exit.inBlock] at hl ⊢
  case exit i =>
    obtain ⟨hs, e1, ha1, hq⟩ := hl
    simp only [PK] at hq
    split
    · rename_i hi; rw [if_pos hi] at hq; exact ⟨hs, e1, ha1, hq⟩
    · rename_i hi; rw [if_neg hi] at hq; exact ⟨hs, e1, ha1, hq⟩
  all_goals exact hl

theorem CW.cond {c : Operand} {x y : Code} {b : Bool} (hc : ev env c = some (.bool b)) (hx : b = true → CW P n x (PK P n R k) env h) (hy : b = false → CW P n y (PK P n R k) env h) :
    CW P n (.cond c x y) (PK P n R k) env h :=
  ⟨fun a w ha hw => wp_cond_split (ha.ev hc) (fun hb => (hx hb).run a w ha hw) (fun hb => (hy hb).run a w ha hw)⟩
theorem CW.cond_true {c : Operand} {x y : Code} {b : Bool} (hc : ev env c = some (.bool b)) (hb : b = true) (hx : CW P n x (PK P n R k) env h) : CW P n (.cond c x y) (PK P n R k) env h :=
  CW.cond hc (fun _ => hx) (fun hb' => by rw [hb] at hb'; cases hb')
theorem CW.cond_false {c : Operand} {x y : Code} {b : Bool} (hc : ev env c = some (.bool b)) (hb : b = false) (hy : CW P n y (PK P n R k) env h) : CW P n (.cond c x y) (PK P n R k) env h :=
  CW.cond hc (fun hb' => by rw [hb] at hb'; cases hb') (fun _ => hy)
theorem CW.cond_dec {c : Operand} {x y : Code} {p : Prop} [Decidable p] (hc : ev env c = some (.bool (decide p))) (hx : p → CW P n x (PK P n R k) env h) (hy : ¬ p → CW P n y (PK P n R k) env h) :
    CW P n (.cond c x y) (PK P n R k) env h :=
  CW.cond hc (fun hb => hx (of_decide_eq_true hb)) (fun hb => hy (of_decide_eq_false hb))

theorem CW.cond_dnot {c : Operand} {x y : Code} {p : Prop} [Decidable p] (hc : ev env c = some (.bool (decide (¬ p)))) (hx : ¬ p → CW P n x (PK P n R k) env h) (hy : p → CW P n y (PK P n R k) env h) :
    CW P n (.cond c x y) (PK P n R k) env h :=
  CW.cond_dec hc hx (fun hp => hy (Decidable.not_not.1 hp))

/-- A loop: 'st x' says what the environment holds at the head of a round in the state x. -/
theorem CW.loop {α : Type} {c : Code} (st : α → Env) (I : α → Heap → Prop) (μ : α → Nat) (x0 : α) (hs : subE (st x0) env) (h0 : I x0 h)
    (round : ∀ x h, I x h → CW P n c (PK P n R (.lp (fun e' h' => ∃ x', subE (st x') e' ∧ I x' h' ∧ μ x' < μ x) :: k)) (st x) h) :
    CW P n (.loop c) (PK P n R k) env h := by
  refine ⟨fun a0 w0 ha hw => ?_⟩
  intro b kk cs
  have key : ∀ m a w x, μ x = m → Agree n (st x) a → I x w.heap → Same w0 w →
      ∃ e a' w', lift n w0 (PK P n R k) e a' w' ∧ Arrives P (lone (b.at a (.code c :: .inLoop c :: kk)) cs w) b kk cs e a' w' := by
    intro m
    induction m using Nat.strongRecOn with
    | _ m ih =>
      intro a w x hm hag hI hsame
      obtain ⟨e, a1, w1, hq, harr⟩ := (round x w.heap hI).run a w hag rfl b (.inLoop c :: kk) cs
      cases e with
      | normal =>
        simp only [lift, PK] at hq
        obtain ⟨hs1, e1, hag1, x', hsub, hI', hlt⟩ := hq
        obtain ⟨e2, a2, w2, hq2, harr2⟩ := ih (μ x') (hm ▸ hlt) a1 w1 x' rfl (hag1.sub hsub) hI' (hsame.trans hs1)
        exact ⟨e2, a2, w2, hq2, .of_steps (Steps.trans harr (.one step_inLoop)) harr2⟩
      | exit id => exact ⟨(.exit id), a1, w1, lift_mono hsame (.exit id) a1 w1 (show lift n w (PK P n R k) (.exit id) a1 w1 from hq), .pass (x := .inLoop c) rfl (fun _ _ => .inl (by simp)) harr⟩
      | goto l => exact ⟨(.goto l), a1, w1, lift_mono hsame (.goto l) a1 w1 (show lift n w (PK P n R k) (.goto l) a1 w1 from hq), .pass (x := .inLoop c) rfl (fun _ _ => .inl (by simp)) harr⟩
      | ret => exact ⟨.ret, a1, w1, lift_mono hsame .ret a1 w1 (show lift n w (PK P n R k) .ret a1 w1 from hq), .pass (x := .inLoop c) rfl (fun _ _ => .inl (by simp)) harr⟩
      | panic ch => exact hq.elim
      | outgrown => exact hq.elim
  obtain ⟨e, a', w', hq, harr⟩ := key _ a0 w0 x0 rfl (ha.sub hs) (hw ▸ h0) (Same.refl w0)
  exact ⟨e, a', w', hq, .of_steps (.one step_loop) harr⟩

/-- The operations that are left of a region, in the order of the text. -/
structure OW (P : Program) (n : Nat) (ops : Array Oper) (Q : Exit → Env → Heap → Prop) (l : List Oper) (env : Env) (h : Heap) : Prop where
  run : ∀ a w w0, Agree n env a → w.heap = h → Same w0 w → wpList P ops (lift n w0 Q) l a w

/-- The operations that are left of a region that draws its order. -/
structure RW (P : Program) (n : Nat) (fp : List Nat) (ops : Array Oper) (cl : Nat → Cls) (Q : Exit → Env → Heap → Prop) (t : Ord) (env : Env) (h : Heap) : Prop where
  run : ∀ a w w0, Agree n env a → w.heap = h → Same w0 w → TW (Stp fp) P ops cl (lift n w0 Q) t a w

theorem CW.region {id : Nat} {l : List Oper} {Q : Exit → Env → Heap → Prop} (hr : OW P n l.toArray Q l env h) : CW P n (.region id l.toArray false) Q env h :=
  ⟨fun a w ha hw => wp_region_lit (hr.run a w w ha hw (Same.refl w))⟩

theorem lift_panic {w0 : World} {Q : Exit → Env → Heap → Prop} : ∀ c a d v w, lift n w0 Q (.panic c) (a.put d v) w → lift n w0 Q (.panic c) a w := fun _ _ _ _ _ h => h

theorem CW.region_draw {id : Nat} {ops : Array Oper} {Q : Exit → Env → Heap → Prop} (fp : List Nat) (T : Nat → Ord × (Nat → Cls)) (hm : P.follows .mixedOrders = true) (hn : Region.noSelect ops = true)
    (hc : chk ops (T id).2 (T id).1 ops.size true (Array.replicate ops.size false) = true) (hr : RW P n fp ops (T id).2 Q (T id).1 env h) : CW P n (.region id ops true) Q env h :=
  ⟨fun a w ha hw => wp_region_ord (fun h => Stp.refl h) (fun _ _ _ => Stp.trans) (T id).1 (T id).2 hm hn hc lift_panic (hr.run a { w with drawn := w.drawn + 1 } w ha hw ⟨rfl, rfl, rfl⟩)⟩

theorem OW.nil {ops : Array Oper} {Q : Exit → Env → Heap → Prop} (hq : Q .normal env h) : OW P n ops Q [] env h :=
  ⟨fun _ _ _ ha hw hs => ⟨hs, env, ha, hw ▸ hq⟩⟩
theorem RW.done {fp : List Nat} {ops : Array Oper} {cl : Nat → Cls} {Q : Exit → Env → Heap → Prop} (hq : Q .normal env h) : RW P n fp ops cl Q .done env h :=
  ⟨fun _ _ _ ha hw hs => ⟨hs, env, ha, hw ▸ hq⟩⟩
theorem RW.none {fp : List Nat} {ops : Array Oper} {cl : Nat → Cls} {Q : Exit → Env → Heap → Prop} : RW P n fp ops cl Q .none env h := ⟨fun _ _ _ _ _ _ => trivial⟩

/-! ### One operation -/

def mkOp (op : Op) (ty : TypeId) : Oper := ⟨none, op, ty, "", #[], none⟩

/-- It yields v, whatever the memory. -/
def Pu (P : Program) (n : Nat) (op : Op) (ty : TypeId) (env : Env) (v : Value) : Prop := ∀ a w, Agree n env a → (execOp a.eval (mkOp op ty)).run P w = .ok (.value v) w
/-- It yields v at this heap. -/
def Rd (P : Program) (n : Nat) (fp : List Nat) (op : Op) (ty : TypeId) (env : Env) (h : Heap) (v : Value) : Prop := ∀ a w, Agree n env a → Stp fp h w.heap → (execOp a.eval (mkOp op ty)).run P w = .ok (.value v) w
/-- Whatever it does, K holds of its value and of the heap behind it. -/
def Ld (P : Program) (n : Nat) (op : Op) (ty : TypeId) (env : Env) (h : Heap) (K : Value → Heap → Prop) : Prop :=
  ∀ a w (o : Oper) (next : Act → World → Prop) (Q : Exit → Act → World → Prop), Agree n env a → w.heap = h → o.op = op → o.type = ty →
    (∀ v w', Same w w' → K v w'.heap → next (a.put o.dst v) w') → o.wp P a w next Q

/-- One operation that is carried out, by its class. -/
structure St (P : Program) (n : Nat) (fp : List Nat) (c : Cls) (dst : Option Tmp) (op : Op) (ty : TypeId) (env : Env) (h : Heap) (N : Env → Heap → Prop) : Prop where
  pu : c = .pure → ∃ v, Pu P n op ty env v ∧ N (putE env dst v) h
  rd : c = .read → ∃ v, Rd P n fp op ty env h v ∧ N (putE env dst v) h
  ex : c = .ext → Ld P n op ty env h (fun v h' => Stp fp h h' ∧ N (putE env dst v) h')
  ld : c = .loud → Ld P n op ty env h (fun v h' => N (putE env dst v) h')

theorem exec_mk (ρ : Operand → Value) (o : Oper) : execOp ρ o = execOp ρ (mkOp o.op o.type) := by
  obtain ⟨dst, op, type, pos, after, guard⟩ := o
  cases op <;> rfl

section
variable {fp : List Nat}
theorem Pu.rd {op : Op} {ty : TypeId} {v : Value} (hp : Pu P n op ty env v) : Rd P n fp op ty env h v := fun a w ha _ => hp a w ha
theorem Rd.ld {op : Op} {ty : TypeId} {v : Value} {K : Value → Heap → Prop} (hp : Rd P n fp op ty env h v) (hk : K v h) : Ld P n op ty env h K := by
  intro a w o next Q ha hw ho ht hn
  unfold Oper.wp
  rw [exec_mk, ho, ht, hp a w ha (hw ▸ Stp.refl _)]
  exact hn v w (Same.refl w) (hw ▸ hk)
theorem Ld.mono {op : Op} {ty : TypeId} {K K' : Value → Heap → Prop} (hk : ∀ v h', K v h' → K' v h') (hp : Ld P n op ty env h K) : Ld P n op ty env h K' :=
  fun a w o next Q ha hw ho ht hn => hp a w o next Q ha hw ho ht (fun v w' hs h' => hn v w' hs (hk _ _ h'))

def notPure : Cls → Bool | .pure => false | _ => true

theorem St.ofPu {c : Cls} {dst : Option Tmp} {op : Op} {ty : TypeId} {N : Env → Heap → Prop} {v : Value} (hp : Pu P n op ty env v) (hk : N (putE env dst v) h) : St P n fp c dst op ty env h N :=
  ⟨fun _ => ⟨v, hp, hk⟩, fun _ => ⟨v, hp.rd, hk⟩, fun _ => (hp.rd (fp := fp)).ld ⟨Stp.refl _, hk⟩, fun _ => (hp.rd (fp := fp)).ld hk⟩
theorem St.ofRd {c : Cls} {dst : Option Tmp} {op : Op} {ty : TypeId} {N : Env → Heap → Prop} {v : Value} (hc : notPure c = true) (hp : Rd P n fp op ty env h v) (hk : N (putE env dst v) h) : St P n fp c dst op ty env h N :=
  ⟨fun h' => (by rw [h'] at hc; cases hc), fun _ => ⟨v, hp, hk⟩, fun _ => hp.ld ⟨Stp.refl _, hk⟩, fun _ => hp.ld hk⟩
/-- .. of one that leaves all but fp as it was. -/
theorem St.ofEx {c : Cls} {dst : Option Tmp} {op : Op} {ty : TypeId} {N : Env → Heap → Prop} (hc : acts c = true) (hp : Ld P n op ty env h (fun v h' => Stp fp h h' ∧ N (putE env dst v) h')) : St P n fp c dst op ty env h N :=
  ⟨fun h' => (by rw [h'] at hc; cases hc), fun h' => (by rw [h'] at hc; cases hc), fun _ => hp, fun _ => hp.mono fun _ _ h' => h'.2⟩
theorem St.ofLd {c : Cls} {dst : Option Tmp} {op : Op} {ty : TypeId} {N : Env → Heap → Prop} (hc : isLoud c = true) (hp : Ld P n op ty env h (fun v h' => N (putE env dst v) h')) : St P n fp c dst op ty env h N :=
  ⟨fun h' => (by rw [h'] at hc; cases hc), fun h' => (by rw [h'] at hc; cases hc), fun h' => (by rw [h'] at hc; cases hc), fun _ => hp⟩
end

/-- The operation's guard lets it be carried out (b) or not. -/
def gd (ops : Array Oper) (env : Env) (o : Oper) (b : Bool) : Prop := ∀ n a, Agree n env a → Region.wanted o (yielded ops a.tmps) = b

theorem gd_none {ops : Array Oper} {o : Oper} (hg : o.guard = .none) : gd ops env o true := fun _ _ _ => by simp [Region.wanted, hg]
theorem gd_bool {ops : Array Oper} {o : Oper} {j : Nat} {want b : Bool} {d : Tmp} (hg : o.guard = some (j, want)) (hd : (ops[j]?).bind (·.dst) = some d) (he : look env d = some (.bool b)) :
    gd ops env o (b == want) := fun n a ha => by
  have := ha.val d _ he
  simp [Region.wanted, hg, yielded, hd, this]
theorem gd_undef {ops : Array Oper} {o : Oper} {j : Nat} {want : Bool} {d : Tmp} (hg : o.guard = some (j, want)) (hd : (ops[j]?).bind (·.dst) = some d) (he : look env d = some undef) :
    gd ops env o false := fun n a ha => by
  have := ha.val d _ he
  simp [Region.wanted, hg, yielded, hd, this, undef]

theorem OW.step {ops : Array Oper} {Q : Exit → Env → Heap → Prop} {o : Oper} {l : List Oper} (hg : gd ops env o true) (hd : dOK n o.dst = true)
    (hs : St P n [] .loud o.dst o.op o.type env h (fun e h' => OW P n ops Q l e h')) : OW P n ops Q (o :: l) env h := by
  refine ⟨fun a w w0 ha hw hsm => ?_⟩
  unfold wpList
  rw [if_pos (hg n a ha)]
  refine .inl (hs.ld rfl a w o _ _ ha hw rfl rfl fun v w' hs' hk => hk.run _ w' w0 (ha.put hd v) rfl (hsm.trans hs'))
theorem OW.pass {ops : Array Oper} {Q : Exit → Env → Heap → Prop} {o : Oper} {l : List Oper} (hg : gd ops env o false) (hd : dOK n o.dst = true)
    (hs : OW P n ops Q l (putE env o.dst undef) h) : OW P n ops Q (o :: l) env h := by
  refine ⟨fun a w w0 ha hw hsm => ?_⟩
  unfold wpList
  rw [if_neg (by rw [hg n a ha]; exact Bool.false_ne_true)]
  exact hs.run _ w w0 (ha.put hd undef) hw hsm

theorem RW.step {fp : List Nat} {ops : Array Oper} {cl : Nat → Cls} {Q : Exit → Env → Heap → Prop} {i : Nat} {r : Ord} {o : Oper} (ho : ops[i]? = some o) (hg : gd ops env o true) (hd : dOK n o.dst = true)
    (hs : St P n fp (cl i) o.dst o.op o.type env h (fun e h' => RW P n fp ops cl Q r e h')) : RW P n fp ops cl Q (.one i r) env h := by
  refine ⟨fun a w w0 ha hw hsm => ?_⟩
  simp only [TW, cOp]
  split <;> rename_i hc
  · obtain ⟨v, hp, hk⟩ := hs.pu hc
    exact ⟨o, v, ho, .inl ⟨hg n a ha, fun w _ => by rw [exec_mk]; exact hp a w ha⟩, hk.run _ w w0 (ha.put hd v) hw hsm⟩
  · obtain ⟨v, hp, hk⟩ := hs.rd hc
    exact ⟨o, v, ho, .inl ⟨hg n a ha, fun w' hw' => by rw [exec_mk]; exact hp a w' ha (hw ▸ hw')⟩, hk.run _ w w0 (ha.put hd v) hw hsm⟩
  · unfold wpOp
    simp only [ho]
    rw [if_pos (hg n a ha)]
    exact .inl (hs.ex hc a w o _ _ ha hw rfl rfl fun v w' hs' hk => ⟨hw ▸ hk.1, hk.2.run _ w' w0 (ha.put hd v) rfl (hsm.trans hs')⟩)
  · unfold wpOp
    simp only [ho]
    rw [if_pos (hg n a ha)]
    exact .inl (hs.ld hc a w o _ _ ha hw rfl rfl fun v w' hs' hk => hk.run _ w' w0 (ha.put hd v) rfl (hsm.trans hs'))
theorem RW.pass {fp : List Nat} {ops : Array Oper} {cl : Nat → Cls} {Q : Exit → Env → Heap → Prop} {i : Nat} {r : Ord} {o : Oper} (ho : ops[i]? = some o) (hg : gd ops env o false) (hd : dOK n o.dst = true)
    (hs : RW P n fp ops cl Q r (putE env o.dst undef) h) : RW P n fp ops cl Q (.one i r) env h := by
  refine ⟨fun a w w0 ha hw hsm => ?_⟩
  have hk := hs.run _ w w0 (ha.put hd undef) hw hsm
  simp only [TW, cOp]
  split <;> rename_i hc
  · exact ⟨o, undef, ho, .inr ⟨hg n a ha, rfl⟩, hk⟩
  · exact ⟨o, undef, ho, .inr ⟨hg n a ha, rfl⟩, hk⟩
  all_goals
    unfold wpOp
    simp only [ho]
    rw [if_neg (by rw [hg n a ha]; exact Bool.false_ne_true)]
  · exact ⟨Stp.refl _, hk⟩
  · exact hk
theorem RW.alt {fp : List Nat} {ops : Array Oper} {cl : Nat → Cls} {Q : Exit → Env → Heap → Prop} {i : Nat} {ri m : Ord}
    (hs : RW P n fp ops cl Q (.one i ri) env h) (hm : RW P n fp ops cl Q m env h) : RW P n fp ops cl Q (.alt i ri m) env h :=
  ⟨fun a w w0 ha hw hsm => ⟨hs.run a w w0 ha hw hsm, hm.run a w w0 ha hw hsm⟩⟩

/-! ### A function -/

def argE : Nat → List Value → Env
  | _, [] => []
  | i, v :: r => (i, v) :: argE (i + 1) r

theorem look_argE : ∀ (l : List Value) (i t : Nat) (v : Value), look (argE i l) t = some v → i ≤ t ∧ l[t - i]? = some v
  | [], _, _, _, h => by simp [argE, look] at h
  | x :: r, i, t, v, h => by
    simp only [argE, look_cons] at h
    by_cases hit : i = t
    · subst hit; simp at h; subst h; simp
    · simp only [hit, if_false] at h
      obtain ⟨h1, h2⟩ := look_argE r (i + 1) t v h
      have : t - i = t - (i + 1) + 1 := by omega
      exact ⟨by omega, by rw [this]; simpa using h2⟩

/-- What the function hands back. -/
def ResOK (P : Program) (n : Nat) (rs : Array ResultVar) (env : Env) (h : Heap) (v : Value) : Prop :=
  ∀ a w (fn : Func), Agree n env a → w.heap = h → fn.results = rs → (results fn a.tmps).run P w = .ok v w

/-- A call, over heaps: it returns. -/
structure CallsH (P : Program) (f : FuncId) (args : Array Value) (h : Heap) (K : Value → Heap → Prop) : Prop where
  run : ∀ w, w.heap = h → Calls P f args w (fun e w' => ∃ v, e = .returned v ∧ Same w w' ∧ K v w'.heap)

theorem CallsH.mono {f : FuncId} {args : Array Value} {K K' : Value → Heap → Prop} (hc : CallsH P f args h K) (hk : ∀ v h', K v h' → K' v h') : CallsH P f args h K' :=
  ⟨fun w hw => (hc.run w hw).mono fun _ _ ⟨v, h1, h2, h3⟩ => ⟨v, h1, h2, hk _ _ h3⟩⟩

theorem CallsH.of {f : FuncId} {fn : Func} {c : Code} {l : List Value} {rs : Array ResultVar} {K : Value → Heap → Prop} (hf : P.funcs[f]? = some fn) (hb : fn.body = some c) (hn : fn.ntmps = n) (hr : fn.results = rs)
    (hl : Nat.ble l.length n = true)
    (hc : CW P n c (PK P n (fun env h' => ∃ v, ResOK P n rs env h' v ∧ K v h') []) (argE 0 l) h) : CallsH P f l.toArray h K := by
  refine ⟨fun w hw => calls_of_wp hf hb (wp_mono (hc.run _ w ⟨?_, rfl, fun t v hv => ?_⟩ hw) fun e a w1 hl => ?_)⟩
  · have := Nat.le_of_ble_eq_true hl
    simp only [Array.size_append, List.size_toArray, Array.size_replicate, hn]
    omega
  · obtain ⟨_, h2⟩ := look_argE l 0 t v hv
    have hlt : t < l.length := by
      have := (List.getElem?_eq_some_iff.1 h2).1
      omega
    rw [Array.getElem?_append_left (by simpa using hlt)]
    simpa using h2
  · cases e <;> simp only [lift] at hl <;> simp only [bodyPost]
    case normal =>
      obtain ⟨hs, env, ha, v, hres, hk⟩ := hl
      exact ⟨ha.dfr, v, hres a w1 fn ha rfl hr, v, rfl, hs, hk⟩
    case ret =>
      obtain ⟨hs, env, ha, v, hres, hk⟩ := hl
      exact ⟨ha.dfr, v, hres a w1 fn ha rfl hr, v, rfl, hs, hk⟩
    case exit => exact hl.2.elim fun _ hh => hh.2.elim
    case goto => exact hl.2.elim fun _ hh => hh.2.elim
end

/-- Paths join behind a piece of code: what is known there is 'st x' and 'I x'. -/
theorem CW.cut {P : Program} {n : Nat} {R : Env → Heap → Prop} {k : List KI} {env : Env} {h : Heap} {α : Type} {c : Code} (st : α → Env) (I : α → Heap → Prop)
    (h1 : CW P n c (PK P n (fun _ _ => False) [.lp (fun e' h' => ∃ x, subE (st x) e' ∧ I x h')]) env h)
    (h2 : ∀ x h', I x h' → PK P n R k .normal (st x) h') : CW P n c (PK P n R k) env h := by
  refine ⟨fun a w ha hw => wp_mono (h1.run a w ha hw) fun e a' w' hl => ?_⟩
  cases e <;> simp only [lift, PK] at hl ⊢
  case normal =>
    obtain ⟨hs, e1, hag, x, hsub, hI⟩ := hl
    exact ⟨hs, st x, hag.sub hsub, h2 x _ hI⟩
  case ret => exact hl.2.elim fun _ hh => hh.2.elim
  case exit => exact hl.2.elim fun _ hh => hh.2.elim
  case goto => exact hl.2.elim fun _ hh => hh.2.elim
attribute [irreducible] PK
end Go.CF
