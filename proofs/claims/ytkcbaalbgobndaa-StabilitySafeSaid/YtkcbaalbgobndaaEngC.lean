/- Facts on heaps, the table of types, and the rules of the single operations. Generic over the program. -/
import Derived.Test.YtkcbaalbgobndaaEngB
import Derived.Laws.Append
import Derived.Laws.AppendOwn
import Derived.Laws.Slices
import Derived.Laws.Small
import Derived.Laws.Unary
import Derived.Laws.Entries
import Derived.Laws.Cells
import Derived.Laws.CopyRow
import Derived.Laws.Build
import Derived.WalkSpells
namespace Go.CF
open Go

/-! ### Heaps -/

/-- Block b holds these cells. -/
structure Blk (h : Heap) (b : Nat) (T : TypeId) (l : List Value) : Prop where
  get : h[b]? = some (.cells l.toArray T (0, 0))

/-- The cell at a holds v. -/
structure Cel (h : Heap) (a : Addr) (v : Value) : Prop where
  get : ∀ w : World, w.heap = h → w.cell? a = some v

/-- Block b is new. -/
structure New (h : Heap) (b : Nat) (T : TypeId) (l : List Value) (h' : Heap) : Prop where
  eb : b = h.size
  eh : h' = h.push (.cells l.toArray T (0, 0))

/-- Block b has been written. -/
structure Upd (h : Heap) (b : Nat) (T : TypeId) (l : List Value) (h' : Heap) : Prop where
  lt : b < h.size
  eh : h' = h.setIfInBounds b (.cells l.toArray T (0, 0))

section
variable {h h' h'' : Heap} {b c : Nat} {T S : TypeId} {l m : List Value} {fp : List Nat} {a : Addr} {v : Value} {o : Nat}

theorem Blk.lt (hb : Blk h b T l) : b < h.size := (Array.getElem?_eq_some_iff.1 hb.get).1
theorem Blk.heap {w : World} (hb : Blk h b T l) (hw : w.heap = h) : w.heap[b]? = some (.cells l.toArray T (0, 0)) := hw ▸ hb.get
theorem Blk.cel (hb : Blk h b T l) (hv : l[o]? = some v) : Cel h ⟨b, o, none⟩ v :=
  ⟨fun w hw => by simp only [World.cell?, hw, hb.get]; simpa using hv⟩
theorem Cel.lt (hc : Cel h a v) : a.block < h.size := by
  have := World.block_lt_of_cell? ({ heap := h, tape := fun _ _ => 0, drawn := 0, os := default, output := #[] } : World) a (hc.get _ rfl)
  exact this
theorem Cel.of_block {h h' : Heap} (he : h'[a.block]? = h[a.block]?) (hc : Cel h a v) : Cel h' a v := by
  refine ⟨fun w hw => ?_⟩
  have h1 := hc.get { heap := h, tape := fun _ _ => 0, drawn := 0, os := default, output := #[] } rfl
  rw [← h1]
  exact World.cell?_of_block (w := { heap := h, tape := fun _ _ => 0, drawn := 0, os := default, output := #[] }) (by rw [hw]; exact he)

theorem Stp.mono {fp' : List Nat} (x : Stp fp h h') (hs : ∀ b, b ∈ fp → b ∈ fp' ∨ h.size ≤ b) : Stp fp' h h' :=
  ⟨x.size, fun b hb hn => x.same b hb (fun hm => (hs b hm).elim hn (fun hle => by omega))⟩
theorem Stp.nil {fp' : List Nat} (x : Stp [] h h') : Stp fp' h h' := x.mono (fun _ hm => by cases hm)
theorem Stp.blk (x : Stp fp h h') (hb : Blk h b T l) (hn : b ∉ fp) : Blk h' b T l := ⟨(x.same b hb.lt hn).trans hb.get⟩
theorem Stp.blk0 (x : Stp [] h h') (hb : Blk h b T l) : Blk h' b T l := x.blk hb (by simp)
theorem Stp.cel (x : Stp fp h h') (hc : Cel h a v) (hn : a.block ∉ fp) : Cel h' a v := Cel.of_block (x.same _ hc.lt hn) hc
theorem Stp.cel0 (x : Stp [] h h') (hc : Cel h a v) : Cel h' a v := x.cel hc (by simp)

theorem New.blk (x : New h b T l h') : Blk h' b T l := ⟨by rw [x.eh, x.eb]; simp⟩
theorem New.stp (x : New h b T l h') : Stp fp h h' :=
  ⟨by rw [x.eh]; simp, fun c hc _ => by rw [x.eh, Array.getElem?_push, if_neg (by omega)]⟩
theorem New.old (x : New h b T l h') (hc : Blk h c S m) : Blk h' c S m := (x.stp (fp := [])).blk0 hc
theorem New.oldc (x : New h b T l h') (hc : Cel h a v) : Cel h' a v := (x.stp (fp := [])).cel0 hc
theorem New.size (x : New h b T l h') : h'.size = h.size + 1 := by rw [x.eh]; simp

theorem Upd.blk (x : Upd h b T l h') : Blk h' b T l := ⟨by rw [x.eh]; simp [x.lt]⟩
theorem Upd.stp (x : Upd h b T l h') : Stp [b] h h' :=
  ⟨by rw [x.eh]; simp, fun c _ hn => by rw [x.eh, Array.getElem?_setIfInBounds, if_neg (fun e => hn (by simp [e]))]⟩
theorem Upd.old (x : Upd h b T l h') (hc : Blk h c S m) (hn : c ≠ b) : Blk h' c S m := x.stp.blk hc (by simpa using hn)
theorem Upd.oldc (x : Upd h b T l h') (hc : Cel h a v) (hn : a.block ≠ b) : Cel h' a v := x.stp.cel hc (by simpa using hn)
theorem Upd.size (x : Upd h b T l h') : h'.size = h.size := by rw [x.eh]; simp

/-- Setting one cell of a list. -/
inductive SetL : List Value → Nat → Value → List Value → Prop where
  | z {x v : Value} {r : List Value} : SetL (x :: r) 0 v (v :: r)
  | s {x v : Value} {r r' : List Value} {k : Nat} : SetL r k v r' → SetL (x :: r) (k + 1) v (x :: r')
theorem SetL.eq : ∀ {l : List Value} {k : Nat} {v : Value} {l' : List Value}, SetL l k v l' → l' = l.set k v ∧ k < l.length
  | _, _, _, _, .z => by simp
  | _, _, _, _, .s hs => by
    obtain ⟨h1, h2⟩ := hs.eq
    refine ⟨by rw [h1]; rfl, by simp; omega⟩

/-- The cells from a on. -/
structure Cels (h : Heap) (a : Addr) (l : List Value) : Prop where
  get : ∀ j v, l[j]? = some v → Cel h (a.add j) v
theorem Cels.stp (x : Stp fp h h') (hc : Cels h a l) (hn : a.block ∉ fp) : Cels h' a l :=
  ⟨fun j v hv => x.cel (hc.get j v hv) (by unfold Addr.add; split <;> exact hn)⟩
theorem Cels.nil : Cels h a [] := ⟨fun j v hv => by simp at hv⟩
theorem addr_add (b o j : Nat) : (⟨b, o, none⟩ : Addr).add j = ⟨b, o + j, none⟩ := by unfold Addr.add; split <;> simp_all
theorem Cels.cell (hc : Cels h ⟨b, o, none⟩ l) {j : Nat} (hv : l[j]? = some v) : Cel h ⟨b, o + j, none⟩ v := by
  have := hc.get j v hv; rwa [addr_add] at this
theorem Blk.cels (hb : Blk h b T l) (o n : Nat) : Cels h ⟨b, o, none⟩ ((l.drop o).take n) := by
  refine ⟨fun j v hv => ?_⟩
  rw [addr_add]
  refine hb.cel ?_
  rw [List.getElem?_take] at hv
  split at hv
  · simpa using hv
  · cases hv
theorem Blk.cels0 (hb : Blk h b T l) : Cels h ⟨b, 0, none⟩ l :=
  ⟨fun j v hv => by rw [addr_add, Nat.zero_add]; exact hb.cel hv⟩
end

/-! ### The table of types -/

inductive TK where
  | int (k : IntKind) | bool | str | ptr (e : Nat) | slice (e : Nat) | map (k e : Nat) | func | iface
  | struct (fs : List (Nat × Nat × Nat))
  | array (len e : Nat)
  | other

structure TI where
  kind : TK
  size : Nat
  bytes : Nat
  zero : Value

def kindOf (P : Program) : TypeDesc → TK
  | .int k => .int k
  | .bool => .bool
  | .string => .str
  | .pointer e => .ptr e
  | .slice e => .slice e
  | .map k e => .map k e
  | .func _ _ _ => .func
  | .interface _ => .iface
  | .struct fs => .struct (fs.toList.map fun f => (f.offset, f.type, P.cellsOf f.type))
  | .array n e => .array n e
  | _ => .other

def TK.agg : TK → Bool
  | .struct _ => true
  | .array _ _ => true
  | .other => true
  | _ => false

structure TOK (P : Program) (T : TypeId) (ti : TI) : Prop where
  ok : ∃ i d, P.info? T = some i ∧ P.underlying T = some d ∧ i.size = ti.size ∧ i.bytes = ti.bytes ∧ i.zero = some ti.zero ∧ kindOf P d = ti.kind

theorem TOK.mk' {P : Program} {T : TypeId} {ti : TI} (h1 : (P.info? T).map (fun i => (i.size, i.bytes, i.zero)) = some (ti.size, ti.bytes, some ti.zero))
    (h2 : (P.underlying T).map (kindOf P) = some ti.kind) : TOK P T ti := by
  obtain ⟨i, hi, he⟩ := Option.map_eq_some_iff.1 h1
  obtain ⟨d, hd, hk⟩ := Option.map_eq_some_iff.1 h2
  simp only [Prod.mk.injEq] at he
  exact ⟨i, d, hi, hd, he.1, he.2.1, he.2.2, hk⟩

section
variable {P : Program} {T : TypeId} {ti : TI} (ht : TOK P T ti) (w : World)
include ht
theorem TOK.run_info : ∃ i, (typeInfo T).run P w = .ok i w ∧ i.size = ti.size ∧ i.bytes = ti.bytes ∧ i.zero = some ti.zero := by
  obtain ⟨i, d, hi, _, h1, h2, h3, _⟩ := ht.ok
  exact ⟨i, by simp [typeInfo, hi], h1, h2, h3⟩
theorem TOK.run_size : (sizeOf T).run P w = .ok ti.size w := by
  obtain ⟨i, h, h1, _, _⟩ := ht.run_info w
  simp [sizeOf, h, h1]
theorem TOK.run_zero : (zeroValue T).run P w = .ok ti.zero w := by
  obtain ⟨i, h, _, _, h3⟩ := ht.run_info w
  simp [zeroValue, h, h3]
theorem TOK.run_agg (ha : ti.kind.agg = false) : (isAgg T).run P w = .ok false w := by
  obtain ⟨i, d, hi, hd, _, _, _, hk⟩ := ht.ok
  have hr := run_underlying hd w
  cases d <;> simp_all [isAgg, kindOf, TK.agg] <;> (rw [← hk] at ha; simp at ha)
theorem TOK.run_agg' {fs : List (Nat × Nat × Nat)} (ha : ti.kind = .struct fs) : (isAgg T).run P w = .ok true w := by
  obtain ⟨i, d, hi, hd, _, _, _, hk⟩ := ht.ok
  have hr := run_underlying hd w
  rw [ha] at hk
  cases d <;> simp [kindOf] at hk
  simp [isAgg, hr]
theorem TOK.slice {e : Nat} (hk : ti.kind = .slice e) : P.underlying T = some (.slice e) := by
  obtain ⟨i, d, hi, hd, _, _, _, hk'⟩ := ht.ok
  rw [hk] at hk'
  cases d <;> simp [kindOf] at hk'
  subst hk'; exact hd
theorem TOK.array {n e : Nat} (hk : ti.kind = .array n e) : P.underlying T = some (.array n e) := by
  obtain ⟨i, d, hi, hd, _, _, _, hk'⟩ := ht.ok
  rw [hk] at hk'
  cases d <;> simp [kindOf] at hk'
  obtain ⟨rfl, rfl⟩ := hk'; exact hd
theorem TOK.ptr {e : Nat} (hk : ti.kind = .ptr e) : P.underlying T = some (.pointer e) := by
  obtain ⟨i, d, hi, hd, _, _, _, hk'⟩ := ht.ok
  rw [hk] at hk'
  cases d <;> simp [kindOf] at hk'
  subst hk'; exact hd
theorem TOK.int {k : IntKind} (hk : ti.kind = .int k) : P.underlying T = some (.int k) := by
  obtain ⟨i, d, hi, hd, _, _, _, hk'⟩ := ht.ok
  rw [hk] at hk'
  cases d <;> simp [kindOf] at hk'
  subst hk'; exact hd
theorem TOK.bool (hk : ti.kind = .bool) : P.underlying T = some .bool := by
  obtain ⟨i, d, hi, hd, _, _, _, hk'⟩ := ht.ok
  rw [hk] at hk'
  cases d <;> simp [kindOf] at hk'
  exact hd
theorem TOK.struct {fs : List (Nat × Nat × Nat)} (hk : ti.kind = .struct fs) : ∃ ff : Array Field, P.underlying T = some (.struct ff) ∧ fs = ff.toList.map fun f => (f.offset, f.type, P.cellsOf f.type) := by
  obtain ⟨i, d, hi, hd, _, _, _, hk'⟩ := ht.ok
  rw [hk] at hk'
  cases d <;> simp [kindOf] at hk'
  exact ⟨_, hd, hk'.symm⟩
end

/-- What the rules ask of a program: the table of its types, and which functions can be entered. -/
structure PgOK (P : Program) (tt : Nat → Option TI) (en : Nat → Bool) : Prop where
  ok : ∀ T ti, tt T = some ti → TOK P T ti
  entOK : ∀ f, en f = true → ∀ args w, (callFunc f args).run P w = .ok (.enter f args) w
  mix : P.follows .mixedOrders = true

/-! ### The operations that depend on nothing in memory -/
section
variable {P : Program} {tt : Nat → Option TI} {en : Nat → Bool} {fp : List Nat} {n : Nat} {c : Cls} {env : Env} {h : Heap} {N : Env → Heap → Prop} {d : Tmp} {ty : TypeId} {t u : TypeId} {x y z : Operand} {v : Value}

theorem St.move (hx : ev env x = some v) (k : N ((d, v) :: env) h) : St P n fp c (some d) (.move x) ty env h N :=
  .ofPu (v := v) (fun a w ha => by simp only [mkOp, execOp, ha.ev hx]; rfl) k
theorem St.assign (hx : ev env x = some v) (k : N ((d, v) :: env) h) : St P n fp c (some d) (.assign x) ty env h N :=
  .ofPu (v := v) (fun a w ha => by simp only [mkOp, execOp, ha.ev hx]; rfl) k
theorem St.pick_true {b : Bool} (hx : ev env x = some (.bool b)) (hb : b = true) (hy : ev env y = some v) (k : N ((d, v) :: env) h) : St P n fp c (some d) (.pick x y z) ty env h N :=
  .ofPu (v := v) (fun a w ha => by simp only [mkOp, execOp, ha.ev hx, ha.ev hy, hb, asBool]; rfl) k
theorem St.pick_false {b : Bool} (hx : ev env x = some (.bool b)) (hb : b = false) (hz : ev env z = some v) (k : N ((d, v) :: env) h) : St P n fp c (some d) (.pick x y z) ty env h N :=
  .ofPu (v := v) (fun a w ha => by simp only [mkOp, execOp, ha.ev hx, ha.ev hz, hb, asBool]; rfl) k
theorem St.nilCheck {p : Addr} (hx : ev env x = some (.pointer (some p))) (k : N ((d, .pointer (some p)) :: env) h) : St P n fp c (some d) (.nilCheck x) ty env h N :=
  .ofPu (v := .pointer (some p)) (fun a w ha => by simp only [mkOp, execOp, ha.ev hx]; rfl) k
theorem St.not {b : Bool} (hx : ev env x = some (.bool b)) (k : N ((d, .bool (!b)) :: env) h) : St P n fp c (some d) (.unOp .not t x) ty env h N :=
  .ofPu (v := .bool (!b)) (fun a w ha => by simp only [mkOp, execOp, ha.ev hx]; rfl) k
theorem St.not_dec {p : Prop} [Decidable p] (hx : ev env x = some (.bool (decide p))) (k : N ((d, .bool (decide (¬ p))) :: env) h) : St P n fp c (some d) (.unOp .not t x) ty env h N :=
  .ofPu (v := .bool (decide (¬ p))) (fun a w ha => by simp only [mkOp, execOp, ha.ev hx, decide_not]; rfl) k
theorem St.extract {l : List Value} {i : Nat} (hx : ev env x = some (.tuple l.toArray)) (hi : l[i]? = some v) (k : N ((d, v) :: env) h) : St P n fp c (some d) (.extract x i) ty env h N :=
  .ofPu (v := v) (fun a w ha => by
    have : (l.toArray)[i]? = some v := by simpa using hi
    simp only [mkOp, execOp, ha.ev hx, Instr.extract, this]; rfl) k
theorem St.makeFunc {fn : Fn} {f1 f2 : Array Operand} {l1 l2 : List Value} (h1 : evs env f1.toList = some l1) (h2 : evs env f2.toList = some l2) (k : N ((d, .func fn l1.toArray l2.toArray) :: env) h) :
    St P n fp c (some d) (.makeFunc fn f1 f2) ty env h N :=
  .ofPu (v := .func fn l1.toArray l2.toArray) (fun a w ha => by
    have e1 : f1.map a.eval = l1.toArray := by apply Array.ext'; simpa using ha.evs h1
    have e2 : f2.map a.eval = l2.toArray := by apply Array.ext'; simpa using ha.evs h2
    simp only [mkOp, execOp, e1, e2]; rfl) k

section ints
variable {k' : IntKind} {i j r : Int}
theorem pu_int {op : BinOp} {v : Value} (hx : ev env x = some (.int k' i)) (hy : ev env y = some (.int k' j)) (hr : ∀ w, (binOp op t (.int k' i) (.int k' j)).run P w = .ok v w) : Pu P n (.binOp op t x y u) ty env v :=
  fun a w ha => by simp [mkOp, execOp, ha.ev hx, ha.ev hy, eqGuard_at_int, hr]
theorem St.add (hx : ev env x = some (.int .i64 i)) (hy : ev env y = some (.int .i64 j)) (hr : -9223372036854775808 ≤ i + j ∧ i + j ≤ 9223372036854775807) (k : N ((d, .int .i64 (i + j)) :: env) h) :
    St P n fp c (some d) (.binOp .add t x y u) ty env h N :=
  .ofPu (pu_int hx hy fun w => by simp [binOp_add, Op.intArith, IntKind.wrap_i64]; omega) k
theorem St.sub (hx : ev env x = some (.int .i64 i)) (hy : ev env y = some (.int .i64 j)) (hr : -9223372036854775808 ≤ i - j ∧ i - j ≤ 9223372036854775807) (k : N ((d, .int .i64 (i - j)) :: env) h) :
    St P n fp c (some d) (.binOp .sub t x y u) ty env h N :=
  .ofPu (pu_int hx hy fun w => by simp [binOp_sub, Op.intArith, IntKind.wrap_i64]; omega) k
theorem St.mul (hx : ev env x = some (.int .i64 i)) (hy : ev env y = some (.int .i64 j)) (hr : -9223372036854775808 ≤ i * j ∧ i * j ≤ 9223372036854775807) (k : N ((d, .int .i64 (i * j)) :: env) h) :
    St P n fp c (some d) (.binOp .mul t x y u) ty env h N :=
  .ofPu (pu_int hx hy fun w => by
    simp only [binOp_mul, Op.intArith, IntKind.wrap_i64]
    generalize i * j = m at hr
    show Result.ok (Value.int .i64 _) w = _
    congr 2; omega) k
theorem St.rem (hx : ev env x = some (.int k' i)) (hy : ev env y = some (.int k' j)) (h0 : j ≠ 0) (k : N ((d, .int k' (i.tmod j)) :: env) h) : St P n fp c (some d) (.binOp .rem t x y u) ty env h N :=
  .ofPu (pu_int hx hy fun w => by simp [binOp_rem, Op.intDiv, h0]) k
theorem St.quo (hx : ev env x = some (.int k' i)) (hy : ev env y = some (.int k' j)) (h0 : j ≠ 0) (hr : k'.wrap (i.tdiv j) = r) (k : N ((d, .int k' r) :: env) h) : St P n fp c (some d) (.binOp .quo t x y u) ty env h N :=
  .ofPu (pu_int hx hy fun w => by simp [binOp_quo, Op.intDiv, h0, hr]) k
theorem St.eql (hx : ev env x = some (.int k' i)) (hy : ev env y = some (.int k' j)) (k : N ((d, .bool (decide (i = j))) :: env) h) : St P n fp c (some d) (.binOp .eql t x y u) ty env h N :=
  .ofPu (pu_int hx hy fun w => by simp only [binOp_eql]; show Result.ok (Value.bool (i == j)) w = _; congr 2) k
theorem St.neq (hx : ev env x = some (.int k' i)) (hy : ev env y = some (.int k' j)) (k : N ((d, .bool (decide (i ≠ j))) :: env) h) : St P n fp c (some d) (.binOp .neq t x y u) ty env h N :=
  .ofPu (pu_int hx hy fun w => by
    simp only [binOp_neq]; show Result.ok (Value.bool (i != j)) w = _
    congr 2; by_cases hij : i = j <;> simp [hij]) k
theorem St.lss (hx : ev env x = some (.int k' i)) (hy : ev env y = some (.int k' j)) (k : N ((d, .bool (decide (i < j))) :: env) h) : St P n fp c (some d) (.binOp .lss t x y u) ty env h N :=
  .ofPu (pu_int hx hy fun w => by simp only [binOp_lss]; rfl) k
theorem St.leq (hx : ev env x = some (.int k' i)) (hy : ev env y = some (.int k' j)) (k : N ((d, .bool (decide (i ≤ j))) :: env) h) : St P n fp c (some d) (.binOp .leq t x y u) ty env h N :=
  .ofPu (pu_int hx hy fun w => by simp only [binOp_leq]; rfl) k
theorem St.gtr (hx : ev env x = some (.int k' i)) (hy : ev env y = some (.int k' j)) (k : N ((d, .bool (decide (j < i))) :: env) h) : St P n fp c (some d) (.binOp .gtr t x y u) ty env h N :=
  .ofPu (pu_int hx hy fun w => by simp only [binOp_gtr]; rfl) k
theorem St.geq (hx : ev env x = some (.int k' i)) (hy : ev env y = some (.int k' j)) (k : N ((d, .bool (decide (j ≤ i))) :: env) h) : St P n fp c (some d) (.binOp .geq t x y u) ty env h N :=
  .ofPu (pu_int hx hy fun w => by simp only [binOp_geq]; rfl) k
theorem St.neg (hx : ev env x = some (.int .i64 i)) (hr : -9223372036854775808 ≤ - i ∧ - i ≤ 9223372036854775807) (k : N ((d, .int .i64 (- i)) :: env) h) : St P n fp c (some d) (.unOp .neg t x) ty env h N :=
  .ofPu (v := .int .i64 (- i)) (fun a w ha => by simp [mkOp, execOp, ha.ev hx, unary_neg, Op.intArith, IntKind.wrap_i64]; omega) k
theorem St.convert (G : PgOK P tt en) {ks : IntKind} {ti si : TI} {dst : TypeId} (hs : tt t = some si) (hd : tt dst = some ti) (hk : ti.kind = .int k') (hx : ev env x = some (.int ks i)) (hr : k'.wrap i = r) (k : N ((d, .int k' r) :: env) h) :
    St P n fp c (some d) (.convert t dst x) ty env h N :=
  .ofPu (v := .int k' r) (fun a w ha => by
    obtain ⟨_, ds, _, hds, _⟩ := (G.ok _ _ hs).ok
    have hdd := (G.ok _ _ hd).int hk
    simp [mkOp, execOp, ha.ev hx, Go.convert, run_underlying hds, run_underlying hdd, Conv.intToInt, hr]) k
end ints

theorem St.beql (G : PgOK P tt en) {ti : TI} {b1 b2 : Bool} (ht : tt t = some ti) (hk : ti.kind = .bool) (hx : ev env x = some (.bool b1)) (hy : ev env y = some (.bool b2)) (k : N ((d, .bool (decide (b1 = b2))) :: env) h) :
    St P n fp c (some d) (.binOp .eql t x y u) ty env h N :=
  .ofPu (v := .bool (decide (b1 = b2))) (fun a w ha => by
    simp [mkOp, execOp, ha.ev hx, ha.ev hy, eqGuard_at_bool, run_eql_bool w t b1 b2 ((G.ok _ _ ht).bool hk)]
    cases b1 <;> cases b2 <;> rfl) k
theorem St.bneq (G : PgOK P tt en) {ti : TI} {b1 b2 : Bool} (ht : tt t = some ti) (hk : ti.kind = .bool) (hx : ev env x = some (.bool b1)) (hy : ev env y = some (.bool b2)) (k : N ((d, .bool (decide (b1 ≠ b2))) :: env) h) :
    St P n fp c (some d) (.binOp .neq t x y u) ty env h N :=
  .ofPu (v := .bool (decide (b1 ≠ b2))) (fun a w ha => by
    simp [mkOp, execOp, ha.ev hx, ha.ev hy, eqGuard_at_bool, run_neq_bool w t b1 b2 ((G.ok _ _ ht).bool hk)]
    cases b1 <;> cases b2 <;> rfl) k

theorem St.len (G : PgOK P tt en) {ti : TI} {e len cap : Nat} {p : Option Addr} (ht : tt t = some ti) (hk : ti.kind = .slice e) (hx : ev env x = some (.slice p len cap)) (k : N ((d, .int .i64 (len : Int)) :: env) h) :
    St P n fp c (some d) (.call { callee := .builtin .len, args := #[x], argTypes := #[t] }) ty env h N :=
  .ofPu (v := .int .i64 (len : Int)) (fun a w ha => by
    simp [mkOp, execOp, resolve, invoke, builtin, ha.ev hx, Builtin.len_, run_underlying ((G.ok _ _ ht).slice hk), goInt]) k
theorem St.imin {k' : IntKind} {i j : Int} (hx : ev env x = some (.int k' i)) (hy : ev env y = some (.int k' j)) (k : N ((d, .int k' (Min.min i j)) :: env) h) {tt : Array TypeId} :
    St P n fp c (some d) (.call { callee := .builtin .min, args := #[x, y], argTypes := tt }) ty env h N :=
  .ofPu (v := .int k' (Min.min i j)) (fun a w ha => by
    simp [mkOp, execOp, resolve, invoke, builtin, ha.ev hx, ha.ev hy, run_min_int2]
    omega) k
theorem St.imax {k' : IntKind} {i j : Int} (hx : ev env x = some (.int k' i)) (hy : ev env y = some (.int k' j)) (k : N ((d, .int k' (Max.max i j)) :: env) h) {tt : Array TypeId} :
    St P n fp c (some d) (.call { callee := .builtin .max, args := #[x, y], argTypes := tt }) ty env h N :=
  .ofPu (v := .int k' (Max.max i j)) (fun a w ha => by
    simp [mkOp, execOp, resolve, invoke, builtin, ha.ev hx, ha.ev hy, run_max_int2]
    omega) k

theorem fieldPlace_run {f : Field} {b o : Nat} (w : World) (hz : P.cellsOf f.type ≠ 0) : (fieldPlace ⟨b, o, none⟩ f).run P w = .ok ⟨b, o + f.offset, none⟩ w := by
  unfold Program.cellsOf at hz
  cases hi : P.info? f.type with
  | none => simp [hi] at hz
  | some i =>
    simp [hi] at hz
    simp [fieldPlace, sizeOf, typeInfo, hi, hz, addr_add]

theorem St.fieldAddr (G : PgOK P tt en) {ti : TI} {fs : List (Nat × Nat × Nat)} {b o i off ft sz : Nat} (ht : tt t = some ti) (hk : ti.kind = .struct fs) (hf : fs[i]? = some (off, ft, sz + 1))
    (hx : ev env x = some (.pointer (some ⟨b, o, none⟩))) (k : N ((d, .pointer (some ⟨b, o + off, none⟩)) :: env) h) : St P n fp c (some d) (.fieldAddr t x i) ty env h N :=
  .ofPu (v := .pointer (some ⟨b, o + off, none⟩)) (fun a w ha => by
    obtain ⟨ff, hu, rfl⟩ := (G.ok _ _ ht).struct hk
    rw [List.getElem?_map] at hf
    obtain ⟨f, hf1, hf2⟩ := Option.map_eq_some_iff.1 hf
    simp only [Prod.mk.injEq] at hf2
    have hf3 : ff[i]? = some f := by simpa using hf1
    have := fieldPlace_run (P := P) (b := b) (o := o) w (f := f) (by omega)
    simp [mkOp, execOp, ha.ev hx, Instr.fieldAt, run_underlying hu, hf3, Instr.sureAddr, this, hf2.1]) k
theorem St.fieldAddr0 (G : PgOK P tt en) {ti : TI} {fs : List (Nat × Nat × Nat)} {b i off ft sz : Nat} (ht : tt t = some ti) (hk : ti.kind = .struct fs) (hf : fs[i]? = some (off, ft, sz + 1))
    (hx : ev env x = some (.pointer (some ⟨b, 0, none⟩))) (k : N ((d, .pointer (some ⟨b, off, none⟩)) :: env) h) : St P n fp c (some d) (.fieldAddr t x i) ty env h N :=
  St.fieldAddr G ht hk hf hx (by rw [Nat.zero_add]; exact k)

theorem part_run1 {T : TypeId} {ti : TI} (ht : TOK P T ti) (ha : ti.kind.agg = false) {cs : Array Value} {o : Nat} {v : Value} (hv : cs[o]? = some v) (w : World) : (part T cs o).run P w = .ok v w := by
  simp [part, ht.run_agg w ha, hv]
theorem St.field1 (G : PgOK P tt en) {ti tf : TI} {fs : List (Nat × Nat × Nat)} {i off ft sz : Nat} {l : List Value} (ht : tt t = some ti) (hk : ti.kind = .struct fs) (hf : fs[i]? = some (off, ft, sz))
    (htf : tt ft = some tf) (hka : tf.kind.agg = false) (hx : ev env x = some (.agg l.toArray)) (hv : l[off]? = some v) (k : N ((d, v) :: env) h) : St P n fp c (some d) (.field t x i) ty env h N :=
  .ofPu (v := v) (fun a w ha => by
    obtain ⟨ff, hu, rfl⟩ := (G.ok _ _ ht).struct hk
    rw [List.getElem?_map] at hf
    obtain ⟨f, hf1, hf2⟩ := Option.map_eq_some_iff.1 hf
    simp only [Prod.mk.injEq] at hf2
    have hf3 : ff[i]? = some f := by simpa using hf1
    obtain ⟨rfl, rfl, _⟩ := hf2
    have := part_run1 (G.ok _ _ htf) hka (cs := l.toArray) (o := f.offset) (v := v) (by simpa using hv) w
    simp [mkOp, execOp, ha.ev hx, Instr.field, run_underlying hu, hf3, asAgg, this]) k

theorem St.indexAddr (G : PgOK P tt en) {ti te : TI} {e b o len cap i : Nat} {k' : IntKind} {ii : Int} (ht : tt t = some ti) (hk : ti.kind = .slice e) (hte : tt e = some te) (hx : ev env x = some (.slice (some ⟨b, o, none⟩) len cap)) (hy : ev env y = some (.int k' ii))
    (hii : ii = (i : Int)) (hi : i < len) (k : N ((d, .pointer (some ⟨b, o + i * te.size, none⟩)) :: env) h) : St P n fp c (some d) (.indexAddr t x y) ty env h N :=
  .ofPu (v := .pointer (some ⟨b, o + i * te.size, none⟩)) (fun a w ha => by
    subst hii
    have h1 := (G.ok _ _ hte).run_size w
    simp [mkOp, execOp, ha.ev hx, ha.ev hy, Instr.indexAt, asIntOf, run_underlying ((G.ok _ _ ht).slice hk), h1, hi, addr_add]) k
theorem St.indexAddr1 (G : PgOK P tt en) {ti te : TI} {e b o len cap i : Nat} {k' : IntKind} {ii : Int} (ht : tt t = some ti) (hk : ti.kind = .slice e) (hte : tt e = some te) (h1 : te.size = 1) (hx : ev env x = some (.slice (some ⟨b, o, none⟩) len cap)) (hy : ev env y = some (.int k' ii))
    (hii : ii = (i : Int)) (hi : i < len) (k : N ((d, .pointer (some ⟨b, o + i, none⟩)) :: env) h) : St P n fp c (some d) (.indexAddr t x y) ty env h N :=
  St.indexAddr G ht hk hte hx hy hii hi (by rw [h1, Nat.mul_one]; exact k)
theorem St.indexAddrA (G : PgOK P tt en) {ti te : TI} {e b o len i : Nat} {k' : IntKind} {ii : Int} (ht : tt t = some ti) (hk : ti.kind = .array len e) (hte : tt e = some te) (hx : ev env x = some (.pointer (some ⟨b, o, none⟩))) (hy : ev env y = some (.int k' ii))
    (hii : ii = (i : Int)) (hi : i < len) (k : N ((d, .pointer (some ⟨b, o + i * te.size, none⟩)) :: env) h) : St P n fp c (some d) (.indexAddr t x y) ty env h N :=
  .ofPu (v := .pointer (some ⟨b, o + i * te.size, none⟩)) (fun a w ha => by
    subst hii
    have h1 := (G.ok _ _ hte).run_size w
    simp [mkOp, execOp, ha.ev hx, ha.ev hy, Instr.indexAt, Instr.sureAddr, asIntOf, run_underlying ((G.ok _ _ ht).array hk), h1, hi, addr_add]) k

/-- Nil tests. -/
theorem St.eql_pnil (G : PgOK P tt en) {ti : TI} {e : Nat} {p : Option Addr} (ht : tt t = some ti) (hk : ti.kind = .ptr e) (hx : ev env x = some (.pointer p)) (hy : ev env y = some (.pointer none)) (k : N ((d, .bool p.isNone) :: env) h) :
    St P n fp c (some d) (.binOp .eql t x y u) ty env h N :=
  .ofPu (v := .bool p.isNone) (fun a w ha => by
    have hu := (G.ok _ _ ht).ptr hk
    have hp : P.underlying t = some (.pointer (P.pointee t)) := by rw [hu]; simp [Program.pointee, hu]
    simp [mkOp, execOp, ha.ev hx, ha.ev hy, eqGuard_at_pointer, run_eql_pointer_nil w t p hp]) k
theorem St.neq_pnil (G : PgOK P tt en) {ti : TI} {e : Nat} {p : Option Addr} (ht : tt t = some ti) (hk : ti.kind = .ptr e) (hx : ev env x = some (.pointer p)) (hy : ev env y = some (.pointer none)) (k : N ((d, .bool p.isSome) :: env) h) :
    St P n fp c (some d) (.binOp .neq t x y u) ty env h N :=
  .ofPu (v := .bool p.isSome) (fun a w ha => by
    have hu := (G.ok _ _ ht).ptr hk
    have hp : P.underlying t = some (.pointer (P.pointee t)) := by rw [hu]; simp [Program.pointee, hu]
    have e := run_neq_pointer_nil w t p hp
    simp only [mkOp, execOp, ha.ev hx, ha.ev hy, eqGuard_at_pointer, Sem.run_bind, Sem.run_pure, Result.andThen_ok, e]
    cases p <;> rfl) k
theorem St.eql_snil (G : PgOK P tt en) {ti : TI} {e l1 c1 l2 c2 : Nat} {p : Option Addr} (ht : tt t = some ti) (hk : ti.kind = .slice e) (hx : ev env x = some (.slice p l1 c1)) (hy : ev env y = some (.slice none l2 c2)) (k : N ((d, .bool p.isNone) :: env) h) :
    St P n fp c (some d) (.binOp .eql t x y u) ty env h N :=
  .ofPu (v := .bool p.isNone) (fun a w ha => by
    have hu := (G.ok _ _ ht).slice hk
    simp [mkOp, execOp, ha.ev hx, ha.ev hy, eqGuard_at_slice, Lib.run_eql_slice_nil w t e p l1 c1 l2 c2 hu]) k

/-! ### Reading -/
theorem St.load (G : PgOK P tt en) {ti : TI} {p : Addr} (ht : tt t = some ti) (hk : ti.kind.agg = false) (hx : ev env x = some (.pointer (some p))) (hv : Cel h p v) (hn : p.block ∉ fp) (hc : notPure c = true) (k : N ((d, v) :: env) h) : St P n fp c (some d) (.load t x) ty env h N :=
  .ofRd hc (v := v) (fun a w ha hw => by
    have h1 := (G.ok _ _ ht).run_agg w hk
    simp [mkOp, execOp, ha.ev hx, Instr.loadAt, Instr.sureAddr, loadVar, h1, (hw.cel hv hn).get w rfl]) k
theorem run_cels {w : World} {a : Addr} {l : List Value} (hc : Cels w.heap a l) : (loadCells a l.length).run P w = .ok l.toArray w :=
  run_loadCells_list w a l (fun j v hv => (hc.get j v hv).get w rfl)
theorem St.loadS (G : PgOK P tt en) {ti : TI} {fs : List (Nat × Nat × Nat)} {p : Addr} {l : List Value} (ht : tt t = some ti) (hk : ti.kind = .struct fs) (hx : ev env x = some (.pointer (some p))) (hl : Cels h p l) (hn : p.block ∉ fp) (hz : ti.size = l.length) (hc : notPure c = true)
    (k : N ((d, .agg l.toArray) :: env) h) : St P n fp c (some d) (.load t x) ty env h N :=
  .ofRd hc (v := .agg l.toArray) (fun a w ha hw => by
    have h1 := (G.ok _ _ ht).run_agg' w hk
    have h2 := (G.ok _ _ ht).run_size w
    have h3 := run_cels (P := P) (w := w) (a := p) (l := l) (hl.stp hw hn)
    simp [mkOp, execOp, ha.ev hx, Instr.loadAt, Instr.sureAddr, loadVar, h1, h2, hz, h3]) k

/-! ### Writing -/
theorem ld_new {op : Op} {v : Heap → Value} {T : TypeId} {l : List Value} {K : Value → Heap → Prop}
    (hr : ∀ a w, Agree n env a → w.heap = h → (execOp a.eval (mkOp op ty)).run P w = .ok (.value (v h)) (w.alloc (.cells l.toArray T)))
    (hk : K (v h) (h.push (.cells l.toArray T (0, 0)))) : Ld P n op ty env h (fun v h' => Stp fp h h' ∧ K v h') := by
  intro a w o next Q ha hw ho ht hn
  unfold Oper.wp
  rw [exec_mk, ho, ht, hr a w ha hw]
  exact hn _ _ ⟨rfl, rfl, rfl⟩ (by simp only [World.alloc, hw]; exact ⟨(New.mk rfl rfl : New h h.size T l _).stp, hk⟩)

theorem St.alloc (G : PgOK P tt en) {ti : TI} (ht : tt t = some ti) (hc : acts c = true) {l : List Value} (hl : ti.zero.cells.toList = l)
    (k : ∀ b h', New h b t l h' → b = h.size → h'.size = h.size + 1 → N ((d, .pointer (some ⟨b, 0, none⟩)) :: env) h') : St P n fp c (some d) (.alloc t) ty env h N :=
  .ofEx hc (ld_new (v := fun h => .pointer (some ⟨h.size, 0, none⟩)) (T := t) (l := l) (fun a w ha hw => by
    have h1 := (G.ok _ _ ht).run_zero w
    subst hl
    simp [mkOp, execOp, Instr.alloc, h1, newVar, newRow, ← hw]) (k h.size _ ⟨rfl, rfl⟩ rfl (by simp)))
theorem St.box (hx : ev env x = some v) (hc : acts c = true) {l : List Value} (hl : v.cells.toList = l)
    (k : ∀ b h', New h b t l h' → b = h.size → h'.size = h.size + 1 → N ((d, .pointer (some ⟨b, 0, none⟩)) :: env) h') : St P n fp c (some d) (.box t x) ty env h N :=
  .ofEx hc (ld_new (v := fun h => .pointer (some ⟨h.size, 0, none⟩)) (T := t) (l := l) (fun a w ha hw => by
    subst hl
    simp [mkOp, execOp, Instr.box, ha.ev hx, newVar, newRow, ← hw]) (k h.size _ ⟨rfl, rfl⟩ rfl (by simp)))

theorem World.setCell_heap {w : World} {b o : Nat} {T : TypeId} {l : List Value} {v : Value} (hb : w.heap[b]? = some (.cells l.toArray T (0, 0))) :
    (w.setCell ⟨b, o, none⟩ v).heap = w.heap.setIfInBounds b (.cells (l.set o v).toArray T (0, 0)) := by
  have hlt : b < w.heap.size := (Array.getElem?_eq_some_iff.1 hb).1
  have hv : w.heap[b] = .cells l.toArray T (0, 0) := (Array.getElem?_eq_some_iff.1 hb).2
  simp only [World.setCell]
  apply Array.ext
  · simp
  · intro k h1 h2
    rw [Array.getElem_modify, Array.getElem_setIfInBounds]
    · split
      · rename_i hk; subst hk; simp [hv]
      · rfl

theorem ld_store (G : PgOK P tt en) {p : Addr} {b o : Nat} {T : TypeId} {l l' : List Value} {K : Value → Heap → Prop} {ti : TI} (ht : tt t = some ti) (h1 : ti.size = 1) (hp : p = ⟨b, o, none⟩) (hx : ev env x = some (.pointer (some p))) (hy : ev env y = some v) (hv : v.oneCell' = true)
    (hb : Blk h b T l) (hs : l' = l.set o v) (ho : o < l.length) (k : K undef (h.setIfInBounds b (.cells l'.toArray T (0, 0)))) : Ld P n (.store t x y) ty env h K := by
  intro a w oo next Q ha hw hop hty hn
  subst hp
  unfold Oper.wp
  have hh := hb.heap hw
  have hcell : w.cell? ⟨b, o, none⟩ = some l[o] := by simp [World.cell?, hh, ho]
  have hfro : w.frozen? ⟨b, o, none⟩ = false := by simp [World.frozen?, hh]
  have hst := run_store P w ⟨b, o, none⟩ v .plain hv
  rw [hcell] at hst
  simp only [hfro, Bool.false_eq_true, if_false] at hst
  have hsz := (G.ok _ _ ht).run_size w
  have hcs : v.cells = #[v] := by cases v <;> first | rfl | (simp [Value.oneCell'] at hv)
  have hrun : (execOp a.eval (mkOp (.store t x y) ty)).run P w = .ok .skip (w.setCell ⟨b, o, none⟩ v) := by
    simp [mkOp, execOp, ha.ev hx, ha.ev hy, Instr.storeAt, Instr.sureAddr, storeVar, hsz, h1, hcs, storeCells, hst, addr_add]
  rw [exec_mk, hop, hty, hrun]
  refine hn _ _ ⟨rfl, rfl, rfl⟩ ?_
  rw [World.setCell_heap hh, hw, ← hs]
  exact k

theorem St.store (G : PgOK P tt en) {b o : Nat} {T : TypeId} {l l' : List Value} {ti : TI} (ht : tt t = some ti) (h1 : ti.size = 1) (hx : ev env x = some (.pointer (some ⟨b, o, none⟩))) (hy : ev env y = some v) (hv : v.oneCell' = true)
    (hb : Blk h b T l) (hs : SetL l o v l') (hc : isLoud c = true) (k : ∀ h', Upd h b T l' h' → h'.size = h.size → N env h') : St P n fp c none (.store t x y) ty env h N :=
  .ofLd hc (ld_store G ht h1 rfl hx hy hv hb hs.eq.1 hs.eq.2 (k _ ⟨hb.lt, rfl⟩ (by simp)))

/-! ### Calls -/
theorem ld_call (G : PgOK P tt en) {f : FuncId} {K : Value → Heap → Prop} {ca : Call} {l : List Value} {first cap : Array Value} {fo : Operand} (hca : ca.callee = .value fo) (hf : ev env fo = some (.func (.func f) first cap)) (hl : evs env ca.args.toList = some l) (he : en f = true)
    (hk : CallsH P f (first ++ l.toArray ++ cap) h K) : Ld P n (.call ca) ty env h K := by
  intro a w oo next Q ha hw hop hty hn
  unfold Oper.wp
  have e1 : ca.args.map a.eval = l.toArray := by apply Array.ext'; simpa using ha.evs hl
  have hrun : (execOp a.eval (mkOp (.call ca) ty)).run P w = .ok (.enter f (first ++ l.toArray ++ cap)) w := by
    simp [mkOp, execOp, resolve, hca, e1, ha.ev hf, Deferred.ofValue, invoke, G.entOK f he]
  rw [exec_mk, hop, hty, hrun]
  refine Calls.mono (hk.run w hw) fun e w' ⟨v, he, hs, hk⟩ => ?_
  subst he
  exact hn v w' hs hk

theorem St.call (G : PgOK P tt en) {f : FuncId} {args : Array Operand} {at' : Array TypeId} {l : List Value} (hl : evs env args.toList = some l) (he : en f = true) (hc : isLoud c = true)
    (hk : CallsH P f l.toArray h (fun v h' => N ((d, v) :: env) h')) : St P n fp c (some d) (.call { callee := .value (.func f), args := args, argTypes := at' }) ty env h N :=
  .ofLd hc (ld_call G (first := #[]) (cap := #[]) rfl rfl hl he (by simpa [putE] using hk))
theorem St.callX (G : PgOK P tt en) {f : FuncId} {args : Array Operand} {at' : Array TypeId} {l : List Value} (hl : evs env args.toList = some l) (he : en f = true) (hc : acts c = true)
    (hk : CallsH P f l.toArray h (fun v h' => Stp fp h h' ∧ N ((d, v) :: env) h')) : St P n fp c (some d) (.call { callee := .value (.func f), args := args, argTypes := at' }) ty env h N :=
  .ofEx hc (ld_call G (first := #[]) (cap := #[]) rfl rfl hl he (by simpa [putE] using hk))
theorem St.call0 (G : PgOK P tt en) {f : FuncId} {args : Array Operand} {at' : Array TypeId} {l : List Value} (hl : evs env args.toList = some l) (he : en f = true) (hc : isLoud c = true)
    (hk : CallsH P f l.toArray h (fun _ h' => N env h')) : St P n fp c none (.call { callee := .value (.func f), args := args, argTypes := at' }) ty env h N :=
  .ofLd hc (ld_call G (first := #[]) (cap := #[]) rfl rfl hl he (by simpa [putE] using hk))
theorem St.callT (G : PgOK P tt en) {f : FuncId} {args : Array Operand} {at' : Array TypeId} {l : List Value} {first cap : List Value} (hf : ev env x = some (.func (.func f) first.toArray cap.toArray)) (hl : evs env args.toList = some l) (he : en f = true) (hc : isLoud c = true)
    (hk : CallsH P f (first ++ l ++ cap).toArray h (fun v h' => N ((d, v) :: env) h')) : St P n fp c (some d) (.call { callee := .value x, args := args, argTypes := at' }) ty env h N :=
  .ofLd hc (ld_call G rfl hf hl he (by simpa [putE] using hk))

/-! ### Results -/
theorem ResOK.zero : ResOK P n #[] env h (.tuple #[]) := fun _ _ _ _ _ hr => results_none hr _ _ _
theorem ResOK.one {t1 : Tmp} (h1 : look env t1 = some v) : ResOK P n #[.tmp t1] env h v := fun a w fn ha _ hr => by
  rw [results_tmp hr]; simp [ha.val _ _ h1]
theorem ResOK.two {t1 t2 : Tmp} {v1 v2 : Value} (h1 : look env t1 = some v1) (h2 : look env t2 = some v2) : ResOK P n #[.tmp t1, .tmp t2] env h (.tuple #[v1, v2]) := fun a w fn ha _ hr => by
  rw [results_tmp2 hr]; simp [ha.val _ _ h1, ha.val _ _ h2]
theorem ResOK.three {t1 t2 t3 : Tmp} {v1 v2 v3 : Value} (h1 : look env t1 = some v1) (h2 : look env t2 = some v2) (h3 : look env t3 = some v3) : ResOK P n #[.tmp t1, .tmp t2, .tmp t3] env h (.tuple #[v1, v2, v3]) := fun a w fn ha _ hr => by
  rw [results_tmp3 hr]; simp [ha.val _ _ h1, ha.val _ _ h2, ha.val _ _ h3]
end
end Go.CF
namespace Go.CF
open Go
def lookT : List (Nat × TI) → Nat → Option TI
  | [], _ => none
  | (k, v) :: r, t => bif Nat.beq k t then some v else lookT r t
theorem lookT_mem : ∀ {l : List (Nat × TI)} {T : Nat} {ti : TI}, lookT l T = some ti → (T, ti) ∈ l
  | [], _, _, h => by simp [lookT] at h
  | (k, v) :: r, T, ti, h => by
    simp only [lookT] at h
    cases hb : Nat.beq k T with
    | true =>
      simp only [hb, cond_true, Option.some.injEq] at h
      have := Nat.eq_of_beq_eq_true hb
      subst this; subst h; simp
    | false =>
      simp only [hb, cond_false] at h
      exact List.mem_cons_of_mem _ (lookT_mem h)
theorem lookT_ok {P : Program} {l : List (Nat × TI)} (hl : ∀ p ∈ l, TOK P p.1 p.2) : ∀ T ti, lookT l T = some ti → TOK P T ti := fun _ _ h => hl _ (lookT_mem h)
def entB (P : Program) (f : Nat) : Bool := match P.funcs[f]? with
  | some fn => fn.body.isSome && !(fn.name == "runtime.NumGoroutine")
  | none => false
theorem entB_ok {P : Program} {f : Nat} (h : entB P f = true) : ∀ args w, (callFunc f args).run P w = .ok (.enter f args) w := by
  intro args w
  unfold entB at h
  cases hf : P.funcs[f]? with
  | none => simp [hf] at h
  | some fn =>
    simp only [hf, Bool.and_eq_true, Bool.not_eq_true'] at h
    have h2 : fn.body.isNone = false := by cases hb : fn.body <;> simp_all
    simp only [callFunc, Sem.run_bind, run_program, Result.andThen_ok, hf, h.2, h2, Bool.false_eq_true, if_false]
    rfl
def clOf (l : List Cls) (i : Nat) : Cls := l.getD i .loud
end Go.CF
namespace Go.CF
open Go
section
variable {P : Program} {n : Nat} {fp : List Nat} {env : Env} {h : Heap} {ops : Array Oper} {cl : Nat → Cls} {Q : Exit → Env → Heap → Prop} {o : Oper} {l : List Oper} {j : Nat} {want b : Bool} {d : Tmp} {i : Nat} {r : Ord}
theorem gd_yes (hg : o.guard = some (j, want)) (hd : (ops[j]?).bind (·.dst) = some d) (he : look env d = some (.bool b)) (hb : b = want) : gd ops env o true := by
  have := gd_bool (ops := ops) hg hd he
  subst hb; simpa using this
theorem gd_no (hg : o.guard = some (j, want)) (hd : (ops[j]?).bind (·.dst) = some d) (he : look env d = some (.bool b)) (hb : b = !want) : gd ops env o false := by
  have := gd_bool (ops := ops) hg hd he
  subst hb; cases want <;> simpa using this
theorem OW.split_dec {p : Prop} [Decidable p] (_ : o.guard = some (j, want)) (_ : (ops[j]?).bind (·.dst) = some d) (_ : look env d = some (.bool (decide p)))
    (h1 : p → OW P n ops Q (o :: l) env h) (h2 : ¬ p → OW P n ops Q (o :: l) env h) : OW P n ops Q (o :: l) env h := by
  by_cases hp : p
  · exact h1 hp
  · exact h2 hp
theorem OW.split_dnot {p : Prop} [Decidable p] (_ : o.guard = some (j, want)) (_ : (ops[j]?).bind (·.dst) = some d) (_ : look env d = some (.bool (decide (¬ p))))
    (h1 : ¬ p → OW P n ops Q (o :: l) env h) (h2 : p → OW P n ops Q (o :: l) env h) : OW P n ops Q (o :: l) env h := by
  by_cases hp : p
  · exact h2 hp
  · exact h1 hp
theorem RW.split_dnot {p : Prop} [Decidable p] (_ : ops[i]? = some o) (_ : o.guard = some (j, want)) (_ : (ops[j]?).bind (·.dst) = some d) (_ : look env d = some (.bool (decide (¬ p))))
    (h1 : ¬ p → RW P n fp ops cl Q (.one i r) env h) (h2 : p → RW P n fp ops cl Q (.one i r) env h) : RW P n fp ops cl Q (.one i r) env h := by
  by_cases hp : p
  · exact h2 hp
  · exact h1 hp
theorem OW.split (_ : o.guard = some (j, want)) (_ : (ops[j]?).bind (·.dst) = some d) (_ : look env d = some (.bool b))
    (h1 : b = true → OW P n ops Q (o :: l) env h) (h2 : b = false → OW P n ops Q (o :: l) env h) : OW P n ops Q (o :: l) env h := by
  cases hb : b
  · exact h2 hb
  · exact h1 hb
theorem RW.split_dec {p : Prop} [Decidable p] (_ : ops[i]? = some o) (_ : o.guard = some (j, want)) (_ : (ops[j]?).bind (·.dst) = some d) (_ : look env d = some (.bool (decide p)))
    (h1 : p → RW P n fp ops cl Q (.one i r) env h) (h2 : ¬ p → RW P n fp ops cl Q (.one i r) env h) : RW P n fp ops cl Q (.one i r) env h := by
  by_cases hp : p
  · exact h1 hp
  · exact h2 hp
theorem RW.split (_ : ops[i]? = some o) (_ : o.guard = some (j, want)) (_ : (ops[j]?).bind (·.dst) = some d) (_ : look env d = some (.bool b))
    (h1 : b = true → RW P n fp ops cl Q (.one i r) env h) (h2 : b = false → RW P n fp ops cl Q (.one i r) env h) : RW P n fp ops cl Q (.one i r) env h := by
  cases hb : b
  · exact h2 hb
  · exact h1 hb
end
end Go.CF
