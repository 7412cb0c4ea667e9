/- Copies made by append to an empty list. Generic over the program. -/
import Derived.Test.YtkcbaalbgobndaaEngJ
namespace Go.CF
open Go
section
variable {P : Program} {tt : Nat → Option TI} {en : Nat → Bool} {fp : List Nat} {n : Nat} {c : Cls} {env : Env} {h : Heap} {N : Env → Heap → Prop} {d : Tmp} {ty : TypeId} {t u : TypeId} {x y z : Operand} {v : Value}
theorem own_empty {b e sz : Nat} (hb : Blk h b e []) : Own h (.slice (some ⟨b, 0, none⟩) 0 0) e sz 0 [] :=
  ⟨(Nat.zero_mul _).symm, .inr ⟨b, 0, 0, _, rfl, hb, by rw [Nat.zero_mul]; exact Nat.zero_le _, Nat.le_refl _, by rw [Nat.zero_mul, List.take_zero]⟩⟩
theorem St.appendNew (G : PgOK P tt en) {ti te : TI} {e nb m : Nat} {news : List Value} {xv : Value} (ht : tt t = some ti) (hk : ti.kind = .slice e) (hte : tt e = some te) (hz : te.zero.cells.size = te.size)
    (hx : ev env x = some (.slice (some ⟨nb, 0, none⟩) 0 0)) (hy : ev env y = some xv) (ho : Blk h nb e []) (hs : Sl h xv m news) (hm : news.length = m * te.size) (h1 : ∀ u ∈ news, u.oneCell' = true) (hb : m * te.bytes ≤ 140737488355328) (hb2 : m ≤ 9223372036854775807) (hc : isLoud c = true)
    (k : ∀ v' h', Stp [nb] h h' → Own h' v' e te.size m news → (∀ b ∈ blkOf v', b = nb ∨ h.size ≤ b) → N ((d, v') :: env) h') : St P n fp c (some d) (.call { callee := .builtin .append, args := #[x, y], argTypes := #[t, t] }) ty env h N :=
  St.append G ht hk hte hz hx hy (own_empty ho) hs hm h1 (by rw [Nat.zero_add]; exact hb) (by omega) hc fun v' h' happ => by
    have hown := happ.own
    rw [Nat.zero_add, List.nil_append] at hown
    refine k v' h' happ.stp hown (fun b hb => ?_)
    rcases happ.blk with h8 | h8
    · rw [h8] at hb; simp [blkOf] at hb; exact .inl hb
    · exact .inr (h8 b hb)
end
end Go.CF
