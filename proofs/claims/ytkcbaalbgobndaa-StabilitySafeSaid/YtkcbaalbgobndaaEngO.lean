/- Rules of walks over abstract values: control, and the operations that touch no memory. Generic over the program. -/
import Derived.Test.YtkcbaalbgobndaaEngN
namespace Go.CF
open Go

/-- A step of a walk: behind it, s is left to show. -/
class Sp (g : Prop) (s : outParam Prop) : Prop where
  h : s → g
abbrev EA := List (Nat × AV)
abbrev NA := EA → List Res → Prop

structure Lk {α : Type} (o : Option α) (k : α → Prop) : Prop where
  ok : ∃ a, o = some a ∧ k a
theorem Lk.r {α : Type} {o : Option α} {k : α → Prop} {a : α} (h : o = some a) (hk : k a) : Lk o k := ⟨a, h, hk⟩
structure Rf (p k : Prop) : Prop where
  p : p
  k : k
structure Om (p k : Prop) : Prop where
  p : p
  k : k
/-- A choice that the context may settle. -/
structure Bd (p X Y : Prop) : Prop where
  x : p → X
  y : ¬ p → Y
theorem Bd.t {p X Y : Prop} (h : p) (hx : X) : Bd p X Y := ⟨fun _ => hx, fun hn => absurd h hn⟩
theorem Bd.f {p X Y : Prop} (h : ¬ p) (hy : Y) : Bd p X Y := ⟨fun hp => absurd hp h, fun _ => hy⟩
/-- A fact that is gained. -/
structure Im (p k : Prop) : Prop where
  k : p → k

section
variable (Γ : Cx)
def CN (N : NA) (env : Env) (h : Heap) : Prop := ∃ e o G Os, N e o ∧ Con Γ ⟨e, o⟩ env h G Os
/-- What the function must have reached at its end. -/
def endR (env : Env) (h : Heap) : Prop := ∃ v r own G Os, ResOK Γ.P Γ.n Γ.rs env h v ∧ Γ.K r own ∧ r.R h G v ∧ HpOK Γ.h0 Γ.G0 Γ.O0 own h G Os
structure CA (k : List KI) (c : Code) (e : EA) (o : List Res) : Prop where
  h : ∀ env h G Os, Con Γ ⟨e, o⟩ env h G Os → CW Γ.P Γ.n c (PK Γ.P Γ.n (endR Γ) k) env h
structure PA (k : List KI) (x : Exit) (e : EA) (o : List Res) : Prop where
  h : ∀ env h G Os, Con Γ ⟨e, o⟩ env h G Os → PK Γ.P Γ.n (endR Γ) k x env h
structure OA (k : List KI) (ops : Array Oper) (l : List Oper) (e : EA) (o : List Res) : Prop where
  h : (l.all fun op => dOK Γ.n op.dst) = true → ∀ env h G Os, Con Γ ⟨e, o⟩ env h G Os → OW Γ.P Γ.n ops (PK Γ.P Γ.n (endR Γ) k) l env h
structure RA' (k : List KI) (ops : Array Oper) (cl : Nat → Cls) (t : Ord) (e : EA) (o : List Res) : Prop where
  h : (ops.toList.all fun op => dOK Γ.n op.dst) = true → ∀ env h G Os, Con Γ ⟨e, o⟩ env h G Os → RW Γ.P Γ.n [] ops cl (PK Γ.P Γ.n (endR Γ) k) t env h
structure SA (c : Cls) (dst : Option Tmp) (op : Op) (ty : TypeId) (e : EA) (o : List Res) (N : NA) : Prop where
  h : ∀ env h G Os, Con Γ ⟨e, o⟩ env h G Os → St Γ.P Γ.n [] c dst op ty env h (CN Γ N)
/-- An operation with its guard. -/
structure Ex (ops : Array Oper) (c : Cls) (op : Oper) (e : EA) (o : List Res) (N : NA) : Prop where
  h : ∀ env h G Os, Con Γ ⟨e, o⟩ env h G Os → (gd ops env op true ∧ St Γ.P Γ.n [] c op.dst op.op op.type env h (CN Γ N)) ∨ (gd ops env op false ∧ CN Γ N (putE env op.dst undef) h)
/-- A branch. -/
structure Br (a : AV) (X Y : Prop) : Prop where
  h : ∀ h G v, a.R h G v → ∃ b, v = .bool b ∧ (b = true → X) ∧ (b = false → Y)
end

theorem St.mono {P : Program} {n : Nat} {fp : List Nat} {c : Cls} {dst : Option Tmp} {op : Op} {ty : TypeId} {env : Env} {h : Heap} {N N' : Env → Heap → Prop} (s : St P n fp c dst op ty env h N) (hk : ∀ e h, N e h → N' e h) : St P n fp c dst op ty env h N' :=
  ⟨fun hc => let ⟨v, h1, h2⟩ := s.pu hc; ⟨v, h1, hk _ _ h2⟩, fun hc => let ⟨v, h1, h2⟩ := s.rd hc; ⟨v, h1, hk _ _ h2⟩,
   fun hc => (s.ex hc).mono fun _ _ h => ⟨h.1, hk _ _ h.2⟩, fun hc => (s.ld hc).mono fun _ _ h => hk _ _ h⟩

section
variable {Γ : Cx} {k : List KI} {e : EA} {o : List Res} {ops : Array Oper} {l : List Oper} {cl : Nat → Cls} {N : NA}
theorem CN.mk {env : Env} {h : Heap} {G : Nat → Prop} {Os : List (Nat → Prop)} (c : Con Γ ⟨e, o⟩ env h G Os) (hn : N e o) : CN Γ N env h := ⟨e, o, G, Os, hn, c⟩

/-! ### Branches -/
instance {X Y : Prop} : Sp (Br (.val (.bool true)) X Y) X := ⟨fun hx => ⟨by rintro h G v rfl; exact ⟨true, rfl, fun _ => hx, fun h => by cases h⟩⟩⟩
instance {X Y : Prop} : Sp (Br (.val (.bool false)) X Y) Y := ⟨fun hx => ⟨by rintro h G v rfl; exact ⟨false, rfl, fun h => (by cases h), fun _ => hx⟩⟩⟩
instance (priority := 900) {p X Y : Prop} [Decidable p] : Sp (Br (.val (.bool (decide p))) X Y) (Bd p X Y) := ⟨fun hx => ⟨by rintro h G v rfl; exact ⟨decide p, rfl, fun h => hx.x (of_decide_eq_true h), fun h => hx.y (of_decide_eq_false h)⟩⟩⟩
instance {p X Y : Prop} [Decidable p] : Sp (Br (.val (.bool (decide (¬ p)))) X Y) (Bd p Y X) := ⟨fun hx => ⟨by rintro h G v rfl; exact ⟨decide (¬ p), rfl, fun h => hx.y (of_decide_eq_true h), fun h => hx.x (Decidable.not_not.1 (of_decide_eq_false h))⟩⟩⟩
instance {α : Type} {i j : α} {X Y : Prop} [DecidableEq α] : Sp (Br (.val (.bool (decide (i ≠ j)))) X Y) (Bd (i = j) Y X) := ⟨fun hx => ⟨by rintro h G v rfl; exact ⟨decide (i ≠ j), rfl, fun h => hx.y (of_decide_eq_true h), fun h => hx.x (Decidable.not_not.1 (of_decide_eq_false h))⟩⟩⟩
instance (priority := 800) {b : Bool} {X Y : Prop} : Sp (Br (.val (.bool b)) X Y) (Bd (b = true) X Y) := ⟨fun hx => ⟨by rintro h G v rfl; exact ⟨b, rfl, fun h => hx.x h, fun h => hx.y (by simp [h])⟩⟩⟩
instance {b : Bool} {X Y : Prop} : Sp (Br (.val (.bool (!b))) X Y) (Bd (b = true) Y X) := ⟨fun hx => ⟨by rintro h G v rfl; exact ⟨!b, rfl, fun h => hx.y (by simpa using h), fun h => hx.x (by simpa using h)⟩⟩⟩

/-! ### Control -/
instance {x y : Code} : Sp (CA Γ k (.seq x y) e o) (CA Γ (.code y :: k) x e o) := ⟨fun h => ⟨fun env hp G Os c => CW.seq (h.h env hp G Os c)⟩⟩
instance : Sp (CA Γ k .skip e o) (PA Γ k .normal e o) := ⟨fun h => ⟨fun env hp G Os c => CW.skip (h.h env hp G Os c)⟩⟩
instance {i : Nat} : Sp (CA Γ k (.label i) e o) (PA Γ k .normal e o) := ⟨fun h => ⟨fun env hp G Os c => CW.label (h.h env hp G Os c)⟩⟩
instance : Sp (CA Γ k .ret e o) (PA Γ k .ret e o) := ⟨fun h => ⟨fun env hp G Os c => CW.ret (h.h env hp G Os c)⟩⟩
instance {i : Nat} : Sp (CA Γ k (.exit i) e o) (PA Γ k (.exit i) e o) := ⟨fun h => ⟨fun env hp G Os c => CW.exit (h.h env hp G Os c)⟩⟩
instance {i : Nat} {x : Code} : Sp (CA Γ k (.block i x) e o) (CA Γ (.blk i :: k) x e o) := ⟨fun h => ⟨fun env hp G Os c => CW.block (h.h env hp G Os c)⟩⟩
instance {x : Operand} {c1 c2 : Code} : Sp (CA Γ k (.cond x c1 c2) e o) (Lk (evA e x) fun a => Br a (CA Γ k c1 e o) (CA Γ k c2 e o)) := ⟨fun ⟨a, ha, hb⟩ => ⟨fun env hp G Os c => by
  obtain ⟨v, h1, h2⟩ := c.get ha
  obtain ⟨b, rfl, h3, h4⟩ := hb.h hp G v h2
  exact CW.cond h1 (fun h => (h3 h).h env hp G Os c) (fun h => (h4 h).h env hp G Os c)⟩⟩
instance {i : Nat} : Sp (CA Γ k (.region i l.toArray false) e o) (Rf ((l.all fun op => dOK Γ.n op.dst) = true) (OA Γ k l.toArray l e o)) := ⟨fun h => ⟨fun env hp G Os c => CW.region (h.k.h h.p env hp G Os c)⟩⟩
/-- An order, written out. -/
inductive ON : Ord → Ord → Prop where
  | done : ON .done .done
  | none : ON .none .none
  | one {i : Nat} {r r' : Ord} : ON r r' → ON (.one i r) (.one i r')
  | alt {i : Nat} {r r' m m' : Ord} : ON r r' → ON m m' → ON (.alt i r m) (.alt i r' m')
theorem ON.eq : ∀ {a b : Ord}, ON a b → a = b
  | _, _, .done => rfl
  | _, _, .none => rfl
  | _, _, .one h => by rw [h.eq]
  | _, _, .alt h h' => by rw [h.eq, h'.eq]
theorem CA.draw {i : Nat} {t : Ord} (hn : Region.noSelect ops = true) (hc : chk ops (Γ.T i).2 (Γ.T i).1 ops.size true (Array.replicate ops.size false) = true) (ho : ON (Γ.T i).1 t) (hd : (ops.toList.all fun op => dOK Γ.n op.dst) = true) (h : RA' Γ k ops (Γ.T i).2 t e o) : CA Γ k (.region i ops true) e o :=
  ⟨fun env hp G Os c => CW.region_draw [] Γ.T Γ.ok.mix hn hc (ho.eq ▸ h.h hd env hp G Os c)⟩
instance {y : Code} : Sp (PA Γ (.code y :: k) .normal e o) (CA Γ k y e o) := ⟨fun h => ⟨fun env hp G Os c => PK.code_normal (h.h env hp G Os c)⟩⟩
instance {i : Nat} : Sp (PA Γ (.blk i :: k) .normal e o) (PA Γ k .normal e o) := ⟨fun h => ⟨fun env hp G Os c => PK.blk_normal (h.h env hp G Os c)⟩⟩
instance {y : Code} : Sp (PA Γ (.code y :: k) .ret e o) (PA Γ k .ret e o) := ⟨fun h => ⟨fun env hp G Os c => PK.code_ret (h.h env hp G Os c)⟩⟩
instance {i : Nat} : Sp (PA Γ (.blk i :: k) .ret e o) (PA Γ k .ret e o) := ⟨fun h => ⟨fun env hp G Os c => PK.blk_ret (h.h env hp G Os c)⟩⟩
instance {I : Env → Heap → Prop} : Sp (PA Γ (.lp I :: k) .ret e o) (PA Γ k .ret e o) := ⟨fun h => ⟨fun env hp G Os c => PK.lp_ret (h.h env hp G Os c)⟩⟩
instance {y : Code} {i : Nat} : Sp (PA Γ (.code y :: k) (.exit i) e o) (PA Γ k (.exit i) e o) := ⟨fun h => ⟨fun env hp G Os c => PK.code_exit (h.h env hp G Os c)⟩⟩
instance {I : Env → Heap → Prop} {i : Nat} : Sp (PA Γ (.lp I :: k) (.exit i) e o) (PA Γ k (.exit i) e o) := ⟨fun h => ⟨fun env hp G Os c => PK.lp_exit (h.h env hp G Os c)⟩⟩
instance {i : Nat} : Sp (PA Γ (.blk i :: k) (.exit i) e o) (PA Γ k .normal e o) := ⟨fun h => ⟨fun env hp G Os c => PK.blk_exit (h.h env hp G Os c)⟩⟩
instance (priority := 900) {i j : Nat} : Sp (PA Γ (.blk j :: k) (.exit i) e o) (Rf (Nat.beq i j = false) (PA Γ k (.exit i) e o)) := ⟨fun h => ⟨fun env hp G Os c => PK.blk_exit_ne h.p (h.k.h env hp G Os c)⟩⟩

/-! ### Operations one by one -/
instance : Sp (OA Γ k ops [] e o) (PA Γ k .normal e o) := ⟨fun h => ⟨fun _ env hp G Os c => OW.nil (h.h env hp G Os c)⟩⟩
theorem OA.cons {op : Oper} (h : Ex Γ ops .loud op e o (OA Γ k ops l)) : OA Γ k ops (op :: l) e o := ⟨fun hd env hp G Os c => by
  simp only [List.all_cons, Bool.and_eq_true] at hd
  rcases h.h env hp G Os c with ⟨h1, h2⟩ | ⟨h1, h2⟩
  · exact OW.step h1 hd.1 (h2.mono fun e' h' ⟨a, b, G', Os', hn, hc⟩ => hn.h hd.2 _ _ _ _ hc)
  · obtain ⟨a, b, G', Os', hn, hc⟩ := h2
    exact OW.pass h1 hd.1 (hn.h hd.2 _ _ _ _ hc)⟩
instance {op : Oper} {a b : List Oper} : Sp (OA Γ k ops (List.append (op :: a) b) e o) (OA Γ k ops (op :: List.append a b) e o) := ⟨id⟩
instance {b : List Oper} : Sp (OA Γ k ops (List.append [] b) e o) (OA Γ k ops b e o) := ⟨id⟩
instance {a b b' : List Oper} : Sp (OA Γ k ops (List.append (List.append a b) b') e o) (OA Γ k ops (List.append a (List.append b b')) e o) := ⟨fun h => by
  have e1 : List.append (List.append a b) b' = List.append a (List.append b b') := List.append_assoc a b b'
  rw [e1]; exact h⟩
instance (priority := 800) {op : Oper} : Sp (OA Γ k ops (op :: l) e o) (Ex Γ ops .loud op e o (OA Γ k ops l)) := ⟨OA.cons⟩
instance : Sp (RA' Γ k ops cl .done e o) (PA Γ k .normal e o) := ⟨fun h => ⟨fun _ env hp G Os c => RW.done (h.h env hp G Os c)⟩⟩
instance : Sp (RA' Γ k ops cl .none e o) True := ⟨fun _ => ⟨fun _ _ _ _ _ _ => RW.none⟩⟩
/-- The operation at a place, written out. -/
structure OpK (x : Option Oper) (M : Option Tmp → Op → TypeId → String → Array Edge → Option (Nat × Bool) → Prop) : Prop where
  ok : ∃ dst op ty pos after guard, x = some ⟨dst, op, ty, pos, after, guard⟩ ∧ M dst op ty pos after guard
theorem OpK.r {x : Option Oper} {M : Option Tmp → Op → TypeId → String → Array Edge → Option (Nat × Bool) → Prop} {dst : Option Tmp} {op : Op} {ty : TypeId} {pos : String} {after : Array Edge} {guard : Option (Nat × Bool)} (h : x = some ⟨dst, op, ty, pos, after, guard⟩) (hm : M dst op ty pos after guard) : OpK x M := ⟨_, _, _, _, _, _, h, hm⟩
instance {i : Nat} {r : Ord} : Sp (RA' Γ k ops cl (.one i r) e o) (OpK ops[i]? fun dst op ty pos after guard => Ex Γ ops (cl i) ⟨dst, op, ty, pos, after, guard⟩ e o (RA' Γ k ops cl r)) := ⟨fun ⟨dst, op, ty, pos, after, guard, ho, h⟩ => ⟨fun hd env hp G Os c => by
  have hd1 : dOK Γ.n dst = true := by
    have h1 := List.all_eq_true.1 hd _ (Array.mem_toList_iff.2 (Array.mem_of_getElem? ho))
    exact h1
  rcases h.h env hp G Os c with ⟨h1, h2⟩ | ⟨h1, h2⟩
  · exact RW.step ho h1 hd1 (h2.mono fun e' h' ⟨a, b, G', Os', hn, hc⟩ => hn.h hd _ _ _ _ hc)
  · obtain ⟨a, b, G', Os', hn, hc⟩ := h2
    exact RW.pass ho h1 hd1 (hn.h hd _ _ _ _ hc)⟩⟩
instance {i : Nat} {ri m : Ord} : Sp (RA' Γ k ops cl (.alt i ri m) e o) (RA' Γ k ops cl (.one i ri) e o ∧ RA' Γ k ops cl m e o) := ⟨fun h => ⟨fun hd env hp G Os c => RW.alt (h.1.h hd env hp G Os c) (h.2.h hd env hp G Os c)⟩⟩
variable {c : Cls} {d : Tmp} {dst : Option Tmp} {op : Op} {ty : TypeId} {pos : String} {after : Array Edge} {j : Nat} {want : Bool}
instance : Sp (Ex Γ ops c ⟨dst, op, ty, pos, after, none⟩ e o N) (SA Γ c dst op ty e o N) := ⟨fun h => ⟨fun env hp G Os c => .inl ⟨gd_none rfl, h.h env hp G Os c⟩⟩⟩
/-- A guard, by what was found. -/
structure Gd (a : AV) (want : Bool) (X Y : Prop) : Prop where
  h : ∀ h G v, a.R h G v → (∃ b, v = .bool b ∧ (b = want → X) ∧ (b = (!want) → Y)) ∨ (v = undef ∧ Y)
instance {a : AV} {X Y s : Prop} [hs : Sp (Br a X Y) s] : Sp (Gd a true X Y) s := ⟨fun h => ⟨fun hp G v hv => .inl ((hs.h h).h hp G v hv)⟩⟩
instance {a : AV} {X Y s : Prop} [hs : Sp (Br a Y X) s] : Sp (Gd a false X Y) s := ⟨fun h => ⟨fun hp G v hv => .inl (let ⟨b, h1, h2, h3⟩ := (hs.h h).h hp G v hv; ⟨b, h1, h3, h2⟩)⟩⟩
instance (priority := 1100) {X Y : Prop} : Sp (Gd (.val undef) want X Y) Y := ⟨fun h => ⟨by rintro hp G v rfl; exact .inr ⟨rfl, h⟩⟩⟩
instance : Sp (Ex Γ ops c ⟨some d, op, ty, pos, after, some (j, want)⟩ e o N) (Lk ((ops[j]?).bind (·.dst)) fun q => Lk (lookA e q) fun a => Gd a want (SA Γ c (some d) op ty e o N) (N ((d, .val undef) :: e) o)) := ⟨fun ⟨q, hq, a, ha, h⟩ => ⟨fun env hp G Os c => by
  obtain ⟨v, h1, h2⟩ := c.env q a ha
  rcases h.h hp G v h2 with ⟨b, rfl, hx, hy⟩ | ⟨rfl, hy⟩
  · by_cases hb : b = want
    · exact .inl ⟨gd_yes rfl hq h1 hb, (hx hb).h env hp G Os c⟩
    · have hb' : b = !want := by cases b <;> cases want <;> simp_all
      exact .inr ⟨gd_no rfl hq h1 hb', CN.mk (c.put d rfl) (hy hb')⟩
  · exact .inr ⟨gd_undef rfl hq h1, CN.mk (c.put d rfl) hy⟩⟩⟩
instance : Sp (Ex Γ ops c ⟨none, op, ty, pos, after, some (j, want)⟩ e o N) (Lk ((ops[j]?).bind (·.dst)) fun q => Lk (lookA e q) fun a => Gd a want (SA Γ c none op ty e o N) (N e o)) := ⟨fun ⟨q, hq, a, ha, h⟩ => ⟨fun env hp G Os c => by
  obtain ⟨v, h1, h2⟩ := c.env q a ha
  rcases h.h hp G v h2 with ⟨b, rfl, hx, hy⟩ | ⟨rfl, hy⟩
  · by_cases hb : b = want
    · exact .inl ⟨gd_yes rfl hq h1 hb, (hx hb).h env hp G Os c⟩
    · have hb' : b = !want := by cases b <;> cases want <;> simp_all
      exact .inr ⟨gd_no rfl hq h1 hb', CN.mk c (hy hb')⟩
  · exact .inr ⟨gd_undef rfl hq h1, CN.mk c hy⟩⟩⟩

instance : Sp (OA Γ k ops (⟨dst, op, ty, pos, after, none⟩ :: l) e o) (SA Γ .loud dst op ty e o (OA Γ k ops l)) := ⟨fun h => OA.cons (Sp.h h)⟩
/-! ### The operations that touch no memory -/
/-- Operands that have been looked up. -/
structure Ap1 (Γ : Cx) (c : Cls) (d : Tmp) (op : Op) (ty : TypeId) (e : EA) (o : List Res) (N : NA) (x : Operand) (a : AV) : Prop where
  h : evA e x = some a → SA Γ c (some d) op ty e o N
structure Ap2 (Γ : Cx) (c : Cls) (d : Tmp) (op : Op) (ty : TypeId) (e : EA) (o : List Res) (N : NA) (x : Operand) (a : AV) (y : Operand) (b : AV) : Prop where
  h : evA e x = some a → evA e y = some b → SA Γ c (some d) op ty e o N
variable {x y z : Operand} {t u : TypeId}
theorem pu1 {a : AV} (f : ∀ env h G v, ev env x = some v → a.R h G v → ∃ r w, r.R h G w ∧ N ((d, r) :: e) o ∧ ∀ N' : Env → Heap → Prop, N' ((d, w) :: env) h → St Γ.P Γ.n [] c (some d) op ty env h N') : Ap1 Γ c d op ty e o N x a :=
  ⟨fun ha => ⟨fun env h G Os c => by
    obtain ⟨v, h1, h2⟩ := c.get ha
    obtain ⟨r, w, h3, h4, h5⟩ := f env h G v h1 h2
    exact h5 _ (CN.mk (c.put d h3) h4)⟩⟩
theorem pu2 {a b : AV} (f : ∀ env h G v w, ev env x = some v → ev env y = some w → a.R h G v → b.R h G w → ∃ r s, r.R h G s ∧ N ((d, r) :: e) o ∧ ∀ N' : Env → Heap → Prop, N' ((d, s) :: env) h → St Γ.P Γ.n [] c (some d) op ty env h N') : Ap2 Γ c d op ty e o N x a y b :=
  ⟨fun ha hb => ⟨fun env h G Os c => by
    obtain ⟨v, h1, h2⟩ := c.get ha
    obtain ⟨w, h1', h2'⟩ := c.get hb
    obtain ⟨r, s, h3, h4, h5⟩ := f env h G v w h1 h1' h2 h2'
    exact h5 _ (CN.mk (c.put d h3) h4)⟩⟩
/-- .. with values that are known. -/
theorem puv1 {v : Value} {s : AV} {w : Value} (hs : ∀ h G, s.R h G w) (hn : N ((d, s) :: e) o) (f : ∀ env h (N' : Env → Heap → Prop), ev env x = some v → N' ((d, w) :: env) h → St Γ.P Γ.n [] c (some d) op ty env h N') : Ap1 Γ c d op ty e o N x (.val v) :=
  pu1 fun env h G u h1 h2 => ⟨s, w, hs h G, hn, fun N' hk => f env h N' (by rw [h1]; exact congrArg some h2) hk⟩
theorem puv2 {v v' w : Value} (hn : N ((d, .val w) :: e) o) (f : ∀ env h (N' : Env → Heap → Prop), ev env x = some v → ev env y = some v' → N' ((d, w) :: env) h → St Γ.P Γ.n [] c (some d) op ty env h N') : Ap2 Γ c d op ty e o N x (.val v) y (.val v') :=
  pu2 fun env h G u u' h1 h1' h2 h2' => ⟨.val w, w, rfl, hn, fun N' hk => f env h N' (by rw [h1]; exact congrArg some h2) (by rw [h1']; exact congrArg some h2') hk⟩

instance : Sp (SA Γ c (some d) (.move x) ty e o N) (Lk (evA e x) fun a => N ((d, a) :: e) o) := ⟨fun ⟨a, ha, h⟩ => ⟨fun env hp G Os c => by
  obtain ⟨v, h1, h2⟩ := c.get ha
  exact St.move h1 (CN.mk (c.put d h2) h)⟩⟩
instance : Sp (SA Γ c (some d) (.assign x) ty e o N) (Lk (evA e x) fun a => N ((d, a) :: e) o) := ⟨fun ⟨a, ha, h⟩ => ⟨fun env hp G Os c => by
  obtain ⟨v, h1, h2⟩ := c.get ha
  exact St.assign h1 (CN.mk (c.put d h2) h)⟩⟩
instance : Sp (OA Γ k ops (⟨some d, .move x, ty, pos, after, none⟩ :: l) e o) (Lk (evA e x) fun a => OA Γ k ops l ((d, a) :: e) o) := ⟨fun h => OA.cons (Sp.h (Sp.h h))⟩
instance : Sp (OA Γ k ops (⟨some d, .assign x, ty, pos, after, none⟩ :: l) e o) (Lk (evA e x) fun a => OA Γ k ops l ((d, a) :: e) o) := ⟨fun h => OA.cons (Sp.h (Sp.h h))⟩
instance : Sp (Ex Γ ops c ⟨some d, .move x, ty, pos, after, none⟩ e o N) (Lk (evA e x) fun a => N ((d, a) :: e) o) := ⟨fun h => Sp.h (Sp.h h)⟩
instance : Sp (SA Γ c (some d) (.pick x y z) ty e o N) (Lk (evA e x) fun q => Br q (Lk (evA e y) fun a => N ((d, a) :: e) o) (Lk (evA e z) fun a => N ((d, a) :: e) o)) := ⟨fun ⟨q, hq, h⟩ => ⟨fun env hp G Os c => by
  obtain ⟨v, h1, h2⟩ := c.get hq
  obtain ⟨b, rfl, h3, h4⟩ := h.h hp G v h2
  cases b with
  | true =>
    obtain ⟨a, ha, hn⟩ := h3 rfl
    obtain ⟨v, g1, g2⟩ := c.get ha
    exact St.pick_true h1 rfl g1 (CN.mk (c.put d g2) hn)
  | false =>
    obtain ⟨a, ha, hn⟩ := h4 rfl
    obtain ⟨v, g1, g2⟩ := c.get ha
    exact St.pick_false h1 rfl g1 (CN.mk (c.put d g2) hn)⟩⟩
instance : Sp (SA Γ c (some d) (.nilCheck x) ty e o N) (Lk (evA e x) fun a => Ap1 Γ c d (.nilCheck x) ty e o N x a) := ⟨fun ⟨_, ha, h⟩ => h.h ha⟩
instance {p : Addr} : Sp (Ap1 Γ c d (.nilCheck x) ty e o N x (.val (.pointer (some p)))) (N ((d, .val (.pointer (some p))) :: e) o) := ⟨fun hn => puv1 (w := .pointer (some p)) (fun _ _ => rfl) hn fun _ _ _ h k => St.nilCheck h k⟩
instance {cs : List AV} {i : Nat} : Sp (Ap1 Γ c d (.nilCheck x) ty e o N x (.ad cs i)) (N ((d, .ad cs i) :: e) o) := ⟨fun hn => pu1 fun env h G v h1 h2 => by
  have h2' := h2
  obtain ⟨b, of, vs, rfl, _⟩ := h2'
  exact ⟨.ad cs i, _, h2, hn, fun _ k => St.nilCheck h1 k⟩⟩
instance {v : Value} {q i r : Nat} : Sp (Ap1 Γ c d (.nilCheck x) ty e o N x (.oe v q i r)) (N ((d, .oe v q i r) :: e) o) := ⟨fun hn => pu1 fun env h G v h1 h2 => by
  have h2' := h2
  obtain ⟨b, of, len, cap, _, rfl⟩ := h2'
  exact ⟨.oe _ q i r, _, h2, hn, fun _ k => St.nilCheck h1 k⟩⟩
instance {q : UnOp} : Sp (SA Γ c (some d) (.unOp q t x) ty e o N) (Lk (evA e x) fun a => Ap1 Γ c d (.unOp q t x) ty e o N x a) := ⟨fun ⟨_, ha, h⟩ => h.h ha⟩
instance {p : Prop} [Decidable p] : Sp (Ap1 Γ c d (.unOp .not t x) ty e o N x (.val (.bool (decide p)))) (N ((d, .val (.bool (decide (¬ p)))) :: e) o) := ⟨fun hn => puv1 (fun _ _ => rfl) hn fun _ _ _ h k => St.not_dec h k⟩
instance (priority := 900) {b : Bool} : Sp (Ap1 Γ c d (.unOp .not t x) ty e o N x (.val (.bool b))) (N ((d, .val (.bool (!b))) :: e) o) := ⟨fun hn => puv1 (fun _ _ => rfl) hn fun _ _ _ h k => St.not h k⟩
instance {i : Int} : Sp (Ap1 Γ c d (.unOp .neg t x) ty e o N x (.val (.int .i64 i))) (Om (-9223372036854775808 ≤ - i ∧ - i ≤ 9223372036854775807) (N ((d, .val (.int .i64 (- i))) :: e) o)) := ⟨fun hn => puv1 (fun _ _ => rfl) hn.k fun _ _ _ h k => St.neg h hn.p k⟩
instance {i : Nat} : Sp (SA Γ c (some d) (.extract x i) ty e o N) (Lk (evA e x) fun a => Ap1 Γ c d (.extract x i) ty e o N x a) := ⟨fun ⟨_, ha, h⟩ => h.h ha⟩
instance {i : Nat} {cs : List AV} : Sp (Ap1 Γ c d (.extract x i) ty e o N x (.tup cs)) (Lk cs[i]? fun a => N ((d, a) :: e) o) := ⟨fun ⟨a, ha, hn⟩ => pu1 fun env h G v h1 h2 => by
  obtain ⟨vs, rfl, hr⟩ := h2
  obtain ⟨w, h3, h4⟩ := hr.get ha
  exact ⟨a, w, h4, hn, fun _ k => St.extract h1 h3 k⟩⟩
instance {q : BinOp} : Sp (SA Γ c (some d) (.binOp q t x y u) ty e o N) (Lk (evA e x) fun a => Lk (evA e y) fun b => Ap2 Γ c d (.binOp q t x y u) ty e o N x a y b) := ⟨fun ⟨_, ha, _, hb, h⟩ => h.h ha hb⟩
section ints
variable {kk : IntKind} {i j : Int}
instance : Sp (Ap2 Γ c d (.binOp .add t x y u) ty e o N x (.val (.int .i64 i)) y (.val (.int .i64 j))) (Om (-9223372036854775808 ≤ i + j ∧ i + j ≤ 9223372036854775807) (N ((d, .val (.int .i64 (i + j))) :: e) o)) := ⟨fun hn => puv2 hn.k fun _ _ _ h h' k => St.add h h' hn.p k⟩
instance : Sp (Ap2 Γ c d (.binOp .sub t x y u) ty e o N x (.val (.int .i64 i)) y (.val (.int .i64 j))) (Om (-9223372036854775808 ≤ i - j ∧ i - j ≤ 9223372036854775807) (N ((d, .val (.int .i64 (i - j))) :: e) o)) := ⟨fun hn => puv2 hn.k fun _ _ _ h h' k => St.sub h h' hn.p k⟩
instance : Sp (Ap2 Γ c d (.binOp .mul t x y u) ty e o N x (.val (.int .i64 i)) y (.val (.int .i64 j))) (Om (-9223372036854775808 ≤ i * j ∧ i * j ≤ 9223372036854775807) (N ((d, .val (.int .i64 (i * j))) :: e) o)) := ⟨fun hn => puv2 hn.k fun _ _ _ h h' k => St.mul h h' hn.p k⟩
instance : Sp (Ap2 Γ c d (.binOp .rem t x y u) ty e o N x (.val (.int kk i)) y (.val (.int kk j))) (Om (0 < j ∧ 0 ≤ i) (N ((d, .val (.int kk (i % j))) :: e) o)) := ⟨fun hn => puv2 hn.k fun _ _ _ h h' k => St.remP h h' hn.p.1 hn.p.2 k⟩
instance : Sp (Ap2 Γ c d (.binOp .quo t x y u) ty e o N x (.val (.int .i64 i)) y (.val (.int .i64 j))) (Om (0 < j ∧ 0 ≤ i ∧ i ≤ 9223372036854775807) (N ((d, .val (.int .i64 (i / j))) :: e) o)) := ⟨fun hn => puv2 hn.k fun _ _ _ h h' k => St.quoI h h' hn.p.1 hn.p.2 k⟩
instance : Sp (Ap2 Γ c d (.binOp .eql t x y u) ty e o N x (.val (.int kk i)) y (.val (.int kk j))) (N ((d, .val (.bool (decide (i = j)))) :: e) o) := ⟨fun hn => puv2 hn fun _ _ _ h h' k => St.eql h h' k⟩
instance : Sp (Ap2 Γ c d (.binOp .neq t x y u) ty e o N x (.val (.int kk i)) y (.val (.int kk j))) (N ((d, .val (.bool (decide (¬ i = j)))) :: e) o) := ⟨fun hn => puv2 hn fun _ _ _ h h' k => St.neq h h' k⟩
instance : Sp (Ap2 Γ c d (.binOp .lss t x y u) ty e o N x (.val (.int kk i)) y (.val (.int kk j))) (N ((d, .val (.bool (decide (i < j)))) :: e) o) := ⟨fun hn => puv2 hn fun _ _ _ h h' k => St.lss h h' k⟩
instance : Sp (Ap2 Γ c d (.binOp .leq t x y u) ty e o N x (.val (.int kk i)) y (.val (.int kk j))) (N ((d, .val (.bool (decide (i ≤ j)))) :: e) o) := ⟨fun hn => puv2 hn fun _ _ _ h h' k => St.leq h h' k⟩
instance : Sp (Ap2 Γ c d (.binOp .gtr t x y u) ty e o N x (.val (.int kk i)) y (.val (.int kk j))) (N ((d, .val (.bool (decide (j < i)))) :: e) o) := ⟨fun hn => puv2 hn fun _ _ _ h h' k => St.gtr h h' k⟩
instance : Sp (Ap2 Γ c d (.binOp .geq t x y u) ty e o N x (.val (.int kk i)) y (.val (.int kk j))) (N ((d, .val (.bool (decide (j ≤ i)))) :: e) o) := ⟨fun hn => puv2 hn fun _ _ _ h h' k => St.geq h h' k⟩
instance {a b : Bool} : Sp (Ap2 Γ c d (.binOp .eql t x y u) ty e o N x (.val (.bool a)) y (.val (.bool b))) (Lk (Γ.tt t) fun ti => Rf (ti.kind = .bool) (N ((d, .val (.bool (decide (a = b)))) :: e) o)) := ⟨fun ⟨_, h1, hn⟩ => puv2 hn.k fun _ _ _ h h' k => St.beql Γ.ok h1 hn.p h h' k⟩
instance {a b : Bool} : Sp (Ap2 Γ c d (.binOp .neq t x y u) ty e o N x (.val (.bool a)) y (.val (.bool b))) (Lk (Γ.tt t) fun ti => Rf (ti.kind = .bool) (N ((d, .val (.bool (decide (¬ a = b)))) :: e) o)) := ⟨fun ⟨_, h1, hn⟩ => puv2 hn.k fun _ _ _ h h' k => St.bneq Γ.ok h1 hn.p h h' k⟩
instance {a : Option Addr} : Sp (Ap2 Γ c d (.binOp .eql t x y u) ty e o N x (.val (.pointer a)) y (.val (.pointer none))) (Lk (Γ.tt t) fun ti => Lk (match ti.kind with | .ptr e => some e | _ => none) fun q => Rf (ti.kind = .ptr q) (N ((d, .val (.bool a.isNone)) :: e) o)) := ⟨fun ⟨_, h1, _, _, hn⟩ => puv2 hn.k fun _ _ _ h h' k => St.eql_pnil Γ.ok h1 hn.p h h' k⟩
instance {a : Option Addr} : Sp (Ap2 Γ c d (.binOp .neq t x y u) ty e o N x (.val (.pointer a)) y (.val (.pointer none))) (Lk (Γ.tt t) fun ti => Lk (match ti.kind with | .ptr e => some e | _ => none) fun q => Rf (ti.kind = .ptr q) (N ((d, .val (.bool a.isSome)) :: e) o)) := ⟨fun ⟨_, h1, _, _, hn⟩ => puv2 hn.k fun _ _ _ h h' k => St.neq_pnil Γ.ok h1 hn.p h h' k⟩
instance {w : TypeId} : Sp (SA Γ c (some d) (.convert t w x) ty e o N) (Lk (evA e x) fun a => Ap1 Γ c d (.convert t w x) ty e o N x a) := ⟨fun ⟨_, ha, h⟩ => h.h ha⟩
instance {w : TypeId} : Sp (Ap1 Γ c d (.convert t w x) ty e o N x (.val (.int kk i))) (Lk (Γ.tt t) fun _ => Lk (Γ.tt w) fun ti => Rf (ti.kind = .int .i64) (Om (-9223372036854775808 ≤ i ∧ i ≤ 9223372036854775807) (N ((d, .val (.int .i64 i)) :: e) o))) := ⟨fun ⟨_, h1, _, h2, hn⟩ => puv1 (fun _ _ => rfl) hn.k.k fun _ _ _ h k => St.convI Γ.ok h1 h2 hn.p h hn.k.p k⟩
variable {tys : Array TypeId}
instance : Sp (SA Γ c (some d) (.call { callee := .builtin .min, args := #[x, y], argTypes := tys }) ty e o N) (Lk (evA e x) fun a => Lk (evA e y) fun b => Ap2 Γ c d (.call { callee := .builtin .min, args := #[x, y], argTypes := tys }) ty e o N x a y b) := ⟨fun ⟨_, ha, _, hb, h⟩ => h.h ha hb⟩
instance : Sp (SA Γ c (some d) (.call { callee := .builtin .max, args := #[x, y], argTypes := tys }) ty e o N) (Lk (evA e x) fun a => Lk (evA e y) fun b => Ap2 Γ c d (.call { callee := .builtin .max, args := #[x, y], argTypes := tys }) ty e o N x a y b) := ⟨fun ⟨_, ha, _, hb, h⟩ => h.h ha hb⟩
instance : Sp (Ap2 Γ c d (.call { callee := .builtin .min, args := #[x, y], argTypes := tys }) ty e o N x (.val (.int kk i)) y (.val (.int kk j))) (N ((d, .val (.int kk (min i j))) :: e) o) := ⟨fun hn => puv2 hn fun _ _ _ h h' k => St.imin h h' k⟩
instance : Sp (Ap2 Γ c d (.call { callee := .builtin .max, args := #[x, y], argTypes := tys }) ty e o N x (.val (.int kk i)) y (.val (.int kk j))) (N ((d, .val (.int kk (max i j))) :: e) o) := ⟨fun hn => puv2 hn fun _ _ _ h h' k => St.imax h h' k⟩
end ints
instance {f : FuncId} {f2 : Array Operand} : Sp (SA Γ c (some d) (.makeFunc (.func f) #[] f2) ty e o N) (Lk (evAs e f2.toList) fun cs => N ((d, .fn f cs) :: e) o) := ⟨fun ⟨cs, hcs, hn⟩ => ⟨fun env hp G Os c => by
  obtain ⟨vs, h1, h2⟩ := c.gets hcs
  exact St.makeFunc (l1 := []) rfl h1 (CN.mk (c.put d (a := .fn f cs) ⟨vs, rfl, h2⟩) hn)⟩⟩
end
end Go.CF
