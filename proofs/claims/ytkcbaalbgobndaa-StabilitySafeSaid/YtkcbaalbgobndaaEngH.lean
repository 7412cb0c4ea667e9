/- Coarse readings, and arguments one by one. Generic over the program. -/
import Derived.Test.YtkcbaalbgobndaaEngG
namespace Go.CF
open Go Go.ChangeShapes Go.WideShapes Go.ChangeAt Go.RowKit

/-- A single cell of which nothing more is asked. -/
def Rp.cell : Rp Value where
  sz := 1
  R := fun _ _ cs a => cs = [a] ∧ a.oneCell' = true
  len := by rintro _ _ _ _ ⟨rfl, _⟩; rfl
  one := by rintro _ _ _ _ ⟨rfl, h⟩ u hu; simp at hu; subst hu; exact h
  stp := fun _ _ h => h
  mono := fun _ h => h
  lt := fun h => h

section
variable {P : Program}
theorem RdT.sliceCell {t e : TypeId} (ht : P.underlying t = some (.slice e)) (hc : P.cellsOf t = 1) (he : Nat.blt 0 (P.cellsOf e) = true) : RdT P t Rp.cell :=
  ⟨hc, fun h => by
    obtain ⟨v, rows, rfl, hs, ⟨p, cap, rfl⟩, _⟩ := trod_sl ht rfl (by simpa using he) h
    exact ⟨_, rfl, rfl⟩⟩
theorem RdT.intCell {t : TypeId} {k : IntKind} (ht : P.underlying t = some (.int k)) (hc : P.cellsOf t = 1) : RdT P t Rp.cell :=
  ⟨hc, fun h => by obtain ⟨n, h1, _, h2⟩ := DataW.trod_int ht h; exact ⟨_, h1, rfl⟩⟩
theorem trodAll_cons {H : Type} {enc : TypeId × Value → H} {W : World} {sp : Nat → Bool} {held : Bool} {t : TypeId} {ts : List TypeId} {vs : List Value} {ds : List (DataW H)} {ps : List MemPlace} (h : DataW.TrodAll enc P W 0 sp held (t :: ts) vs ds ps) :
    ∃ v vs' d ds' p q, vs = v :: vs' ∧ ds = d :: ds' ∧ DataW.Trod enc P W 0 sp held t v d p ∧ DataW.TrodAll enc P W 0 sp held ts vs' ds' q := by
  match vs, ds, h with
  | v :: vs', d :: ds', h => obtain ⟨p, q, h1, h2, _⟩ := h; exact ⟨v, vs', d, ds', p, q, rfl, rfl, h1, h2⟩
theorem trodAll_end {H : Type} {enc : TypeId × Value → H} {W : World} {sp : Nat → Bool} {held : Bool} {vs : List Value} {ds : List (DataW H)} {ps : List MemPlace} (h : DataW.TrodAll enc P W 0 sp held [] vs ds ps) : vs = [] ∧ ds = [] := by
  match vs, ds, h with
  | [], [], _ => exact ⟨rfl, rfl⟩
end
end Go.CF
