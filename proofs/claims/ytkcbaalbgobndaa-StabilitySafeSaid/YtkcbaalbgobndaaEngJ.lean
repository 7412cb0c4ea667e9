/- Rules of arrays behind a pointer. Generic over the program. -/
import Derived.Test.YtkcbaalbgobndaaEngI
import Derived.OpenShut
namespace Go.CF
open Go

section
variable {P : Program} {tt : Nat → Option TI} {en : Nat → Bool} {fp : List Nat} {n : Nat} {c : Cls} {env : Env} {h : Heap} {N : Env → Heap → Prop} {d : Tmp} {ty : TypeId} {t u : TypeId} {x y z : Operand} {v : Value} {k' k2 : IntKind} {i j : Int}

theorem St.indexAddrA1 (G : PgOK P tt en) {ti te : TI} {e b o len m : Nat} {ii : Int} (ht : tt t = some ti) (hk : ti.kind = .array len e) (hte : tt e = some te) (h1 : te.size = 1) (hx : ev env x = some (.pointer (some ⟨b, o, none⟩))) (hy : ev env y = some (.int k' ii))
    (hii : ii = (m : Int)) (hi : m < len) (k : N ((d, .pointer (some ⟨b, o + m, none⟩)) :: env) h) : St P n fp c (some d) (.indexAddr t x y) ty env h N :=
  St.indexAddrA G ht hk hte hx hy hii hi (by rw [h1, Nat.mul_one]; exact k)
/-- The first elements of an array behind a pointer. -/
theorem St.sliceAH (G : PgOK P tt en) {ti te : TI} {e b o len m : Nat} {hi : Int} (ht : tt t = some ti) (hk : ti.kind = .array len e) (hte : tt e = some te) (hx : ev env x = some (.pointer (some ⟨b, o, none⟩))) (hh : ev env z = some (.int k2 hi)) (hhi : hi = (m : Int)) (hle : m ≤ len)
    (k : N ((d, .slice (some ⟨b, o, none⟩) m len) :: env) h) : St P n fp c (some d) (.slice t x none (some z) none) ty env h N :=
  .ofPu (v := .slice (some ⟨b, o, none⟩) m len) (fun a w ha => by
    subst hhi
    have h1 := (G.ok _ _ ht).array hk
    have hl : P.arrayLen t = len := by simp [Program.arrayLen, h1]
    have he : P.elem t = e := by simp [Program.elem, h1]
    have h1' : P.underlying t = some (.array (P.arrayLen t) (P.elem t)) := by rw [hl, he]; exact h1
    have h2 := (G.ok _ _ hte).run_size w
    have hr := run_sliceAt_array_h (P := P) w t ⟨b, o, none⟩ h1' k2 (m : Int) (by omega) (by rw [hl]; omega)
    rw [he] at hr
    simp [mkOp, execOp, ha.ev hx, ha.ev hh, hr, h2, slicedAt, hl, addr_add]) k
end
end Go.CF
