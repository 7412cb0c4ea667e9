/- Rules of further operations: clear on a slice, shifts and bits of which only the range is asked. Generic over the program. -/
import Derived.Test.YtkcbaalbgobndaaEngE
import Derived.Laws.Entries
import Derived.OpenShut
namespace Go.CF
open Go

section
variable {P : Program} {tt : Nat → Option TI} {en : Nat → Bool} {fp : List Nat} {n : Nat} {c : Cls} {env : Env} {h : Heap} {N : Env → Heap → Prop} {d : Tmp} {ty : TypeId} {t u : TypeId} {x y z : Operand} {v : Value} {k' k2 : IntKind} {i j : Int}

theorem St.andAny (hx : ev env x = some (.int k' i)) (hy : ev env y = some (.int k' j)) (k : ∀ r : Int, (Lit.int k' r).wf = true → N ((d, .int k' r) :: env) h) : St P n fp c (some d) (.binOp .and t x y u) ty env h N :=
  .ofPu (pu_int hx hy fun w => by rw [binOp_and]; simp only [Op.intBits]; rfl) (k _ (wf_wrap _ _))
theorem St.shrN {m : Nat} (hx : ev env x = some (.int k' i)) (hy : ev env y = some (.int k2 j)) (hj : j = (m : Int)) (hm : (m : Int) ≤ k'.bits) (k : N ((d, .int k' (i / 2 ^ m)) :: env) h) : St P n fp c (some d) (.binOp .shr t x y u) ty env h N :=
  .ofPu (v := .int k' (i / 2 ^ m)) (fun a w ha => by
    subst hj
    have := shift_shr k' k2 i (m : Int) (by omega) hm
    simp only [mkOp, execOp, ha.ev hx, ha.ev hy, eqGuard_at_int, Sem.run_bind, Sem.run_pure, Result.andThen_ok, binOp_shr, this, Int.toNat_natCast]) k

/-- clear on a slice of one's own that is not empty: some cells of its block have turned. -/
theorem St.clearS (G : PgOK P tt en) {ti te : TI} {e b o m cap T : Nat} {l : List Value} (ht : tt t = some ti) (hk : ti.kind = .slice e) (hte : tt e = some te) (h1 : ∀ u ∈ te.zero.cells.toList, u.oneCell' = true) (hz : te.zero.cells.size = te.size)
    (hx : ev env x = some (.slice (some ⟨b, o, none⟩) (m + 1) cap)) (hb : Blk h b T l) (hl : o + (m + 1) * te.size ≤ l.length) (hc : isLoud c = true)
    (k : ∀ h' l', Upd h b T l' h' → h'.size = h.size → l'.length = l.length → (∀ j, j < o → l'[j]? = l[j]?) → N env h') : St P n fp c none (.call { callee := .builtin .clear, args := #[x], argTypes := #[t] }) ty env h N := by
  refine .ofLd hc fun a w oo next Q ha hw hop hty hn => ?_
  have hu := (G.ok _ _ ht).slice hk
  have hv := (G.ok _ _ hte).run_zero w
  have hg : w.heap[b]? = some (.cells l.toArray T (0, 0)) := hb.heap hw
  have hsz : (Builtin.zeroCells te.zero.cells (m + 1)).toList.length = (m + 1) * te.size := by simp [size_zeroCells, hz]
  have hone : ∀ u ∈ (Builtin.zeroCells te.zero.cells (m + 1)).toList, u.oneCell' = true := by
    intro u hu
    simp only [Builtin.zeroCells, Array.toList_map, List.mem_map] at hu
    obtain ⟨q, hq, rfl⟩ := hu
    have hq2 : q < (m + 1) * te.zero.cells.size := by simpa using hq
    have hpos : 0 < te.zero.cells.size := by
      rcases Nat.eq_zero_or_pos te.zero.cells.size with h0 | h0
      · rw [h0] at hq2; simp at hq2
      · exact h0
    have hlt := Nat.mod_lt q hpos
    rw [getElem!_pos te.zero.cells _ hlt]
    exact h1 _ (by simp)
  have hst := run_storeCells_at P b o T (Builtin.zeroCells te.zero.cells (m + 1)).toList 0 l.toArray w hg (by rw [hsz]; simpa using hl) hone
  simp only [Nat.add_zero] at hst
  have hrun : (execOp a.eval (mkOp (.call { callee := .builtin .clear, args := #[x], argTypes := #[t] }) ty)).run P w = .ok (.value (.tuple #[])) (w.setRow b (l.take o ++ (Builtin.zeroCells te.zero.cells (m + 1)).toList ++ l.drop (o + (Builtin.zeroCells te.zero.cells (m + 1)).toList.length)).toArray) := by
    simp [mkOp, execOp, resolve, invoke, builtin, ha.ev hx, Builtin.clear_, run_underlying hu, hv, hst]
  unfold Oper.wp
  rw [exec_mk, hop, hty, hrun]
  refine hn _ _ ⟨rfl, rfl, rfl⟩ (k _ _ ⟨hb.lt, by rw [World.setRow_heap' hg, hw]⟩ ?_ ?_ ?_)
  · simp [World.setRow_heap' hg, hw]
  · simp only [List.length_append, List.length_take, List.length_drop, hsz]; omega
  · intro q hq
    rw [List.append_assoc, List.getElem?_append_left (by simp; omega), List.getElem?_take, if_pos hq]
end
end Go.CF
namespace Go.CF
open Go
/-- A part of a function's code. -/
def sub : List Nat → Code → Code
  | [], c => c
  | 0 :: r, .seq a _ => sub r a
  | _ :: r, .seq _ b => sub r b
  | 0 :: r, .cond _ a _ => sub r a
  | _ :: r, .cond _ _ b => sub r b
  | _ :: r, .block _ c => sub r c
  | _ :: r, .loop c => sub r c
  | _ :: _, c => c
def bodyOf (f : Func) : Code := f.body.getD .skip
end Go.CF
