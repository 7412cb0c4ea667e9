/- Results that lie in a cell. Generic over the program. -/
import Derived.Test.YtkcbaalbgobndaaEngL
import Derived.Laws.ResultCell
namespace Go.CF
open Go
section
variable {P : Program} {tt : Nat → Option TI} {en : Nat → Bool} {n : Nat} {env : Env} {h : Heap}
theorem results_cell_tmp2 {fn : Func} {p u u2 : Tmp} {ty : TypeId} (h : fn.results = #[.cell p ty, .tmp u, .tmp u2]) (tmps : Array Value) (P : Program) (w : World) :
    (results fn tmps).run P w =
      ((asAddr (tmps.getD p undef)).run P w).andThen fun a w₁ => ((loadVar ty a).run P w₁).andThen fun v w₂ => .ok (.tuple #[v, tmps.getD u undef, tmps.getD u2 undef]) w₂ := by
  simp only [results, h]
  simp [Sem.run_bind, Result.andThen]
theorem ResOK.cell1 (G : PgOK P tt en) {a t : Nat} {ti : TI} {fs : List (Nat × Nat × Nat)} {p : Addr} {l : List Value} {t2 : Tmp} {v2 : Value} (ht : tt t = some ti) (hk : ti.kind = .struct fs) (h1 : look env a = some (.pointer (some p))) (hl : Cels h p l) (hz : ti.size = l.length) (h2 : look env t2 = some v2) :
    ResOK P n #[.cell a t, .tmp t2] env h (.tuple #[.agg l.toArray, v2]) := fun ac w fn ha hw hr => by
  rw [results_cell_tmp hr]
  have g1 := (G.ok _ _ ht).run_agg' w hk
  have g2 := (G.ok _ _ ht).run_size w
  have g3 := run_cels (P := P) (w := w) (a := p) (l := l) (by rw [hw]; exact hl)
  simp [ha.val _ _ h1, ha.val _ _ h2, asAddr, loadVar, g1, g2, hz, g3]
theorem ResOK.cell2 (G : PgOK P tt en) {a t : Nat} {ti : TI} {fs : List (Nat × Nat × Nat)} {p : Addr} {l : List Value} {t2 t3 : Tmp} {v2 v3 : Value} (ht : tt t = some ti) (hk : ti.kind = .struct fs) (h1 : look env a = some (.pointer (some p))) (hl : Cels h p l) (hz : ti.size = l.length) (h2 : look env t2 = some v2) (h3 : look env t3 = some v3) :
    ResOK P n #[.cell a t, .tmp t2, .tmp t3] env h (.tuple #[.agg l.toArray, v2, v3]) := fun ac w fn ha hw hr => by
  rw [results_cell_tmp2 hr]
  have g1 := (G.ok _ _ ht).run_agg' w hk
  have g2 := (G.ok _ _ ht).run_size w
  have g3 := run_cels (P := P) (w := w) (a := p) (l := l) (by rw [hw]; exact hl)
  simp [ha.val _ _ h1, ha.val _ _ h2, ha.val _ _ h3, asAddr, loadVar, g1, g2, hz, g3]
end
/-- Paths join behind a piece of code; paths that leave it otherwise go on. -/
theorem CW.cutR {P : Program} {n : Nat} {R : Env → Heap → Prop} {k : List KI} {env : Env} {h : Heap} {α : Type} {c : Code} (st : α → Env) (I : α → Heap → Prop)
    (h1 : CW P n c (PK P n R (.lp (fun e' h' => ∃ x, subE (st x) e' ∧ I x h') :: k)) env h)
    (h2 : ∀ x h', I x h' → PK P n R k .normal (st x) h') : CW P n c (PK P n R k) env h := by
  refine ⟨fun a w ha hw => wp_mono (h1.run a w ha hw) fun e a' w' hl => ?_⟩
  cases e <;> simp only [lift, PK] at hl ⊢
  case normal =>
    obtain ⟨hs, e1, hag, x, hsub, hI⟩ := hl
    exact ⟨hs, st x, hag.sub hsub, h2 x _ hI⟩
  all_goals exact hl
end Go.CF
