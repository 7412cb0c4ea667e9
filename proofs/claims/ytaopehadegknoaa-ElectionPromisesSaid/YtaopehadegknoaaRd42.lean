/- How messages and calls of package election lie in an argument; condition: the argument is read. -/
import Derived.Test.YtaopehadegknoaaEngH
import Derived.Test.YtaopehadegknoaaEl2
namespace Go.Proofs.Ytaopehadegknoaa
open Go Go.CF
set_option maxRecDepth 20000

def Rp.prioC : Rp (Value × Value × Value × Value × Unit) := Rp.cell.pair (Rp.cell.pair (Rp.cell.pair (Rp.cell.pair Rp.unit)))
def Rp.askC : Rp (Value × (Value × Value × Value × Value × Unit) × Value × Unit) := Rp.cell.pair (Rp.prioC.pair (Rp.cell.pair Rp.unit))
abbrev MsgT := Int × Int × Int × Value × Value × Value × (Value × (Value × Value × Value × Value × Unit) × Value × Unit) × Int × Int × Int × Int × Bool × Value × Unit
def Rp.msgT : Rp MsgT := (Rp.int .i64).pair ((Rp.int .i64).pair ((Rp.int .i64).pair (Rp.cell.pair (Rp.cell.pair (Rp.cell.pair (Rp.askC.pair ((Rp.int .i64).pair ((Rp.int .i64).pair ((Rp.int .i64).pair ((Rp.int .i64).pair (Rp.bool.pair (Rp.cell.pair Rp.unit))))))))))))
theorem rd3 : RdT Try.prog 3 (Rp.int .i64) := RdT.int Try.underlying3 (by kernel_rfl)
theorem rd3c : RdT Try.prog 3 Rp.cell := RdT.intCell Try.underlying3 (by kernel_rfl)
theorem rd4 : RdT Try.prog 4 Rp.bool := RdT.bool Try.underlying4 (by kernel_rfl)
theorem rd26 : RdT Try.prog 26 (Rp.int .i64).slice := RdT.slice Try.underlying26 (by kernel_rfl) rd3 (by decide)
theorem rd26c : RdT Try.prog 26 Rp.cell := RdT.sliceCell Try.underlying26 (by kernel_rfl) (by kernel_rfl)
theorem rd30c : RdT Try.prog 30 Rp.cell := RdT.sliceCell Try.underlying30 (by kernel_rfl) (by kernel_rfl)
theorem rd31c : RdT Try.prog 31 Rp.cell := RdT.sliceCell Try.underlying31 (by kernel_rfl) (by kernel_rfl)
theorem rd34c : RdT Try.prog 34 Rp.cell := RdT.sliceCell Try.underlying34 (by kernel_rfl) (by kernel_rfl)
theorem rd37c : RdT Try.prog 37 Rp.cell := RdT.sliceCell Try.underlying37 (by kernel_rfl) (by kernel_rfl)
theorem rd33c : RdT Try.prog 33 Rp.prioC := RdT.struct Try.underlying33 rfl (by kernel_rfl) (RdF.cons rfl rd3c rfl (RdF.cons rfl rd3c rfl (RdF.cons rfl rd3c rfl (RdF.cons rfl rd3c rfl RdF.nil))))
theorem rd36c : RdT Try.prog 36 Rp.askC := RdT.struct Try.underlying36 rfl (by kernel_rfl) (RdF.cons rfl rd3c rfl (RdF.cons rfl rd33c rfl (RdF.cons rfl rd34c rfl RdF.nil)))
theorem rd39 : RdT Try.prog 39 Rp.msgT := RdT.struct Try.underlying39 rfl (by kernel_rfl)
  (RdF.cons rfl rd3 rfl (RdF.cons rfl rd3 rfl (RdF.cons rfl rd3 rfl (RdF.cons rfl rd26c rfl (RdF.cons rfl rd30c rfl (RdF.cons rfl rd31c rfl (RdF.cons rfl rd36c rfl (RdF.cons rfl rd3 rfl (RdF.cons rfl rd3 rfl (RdF.cons rfl rd3 rfl (RdF.cons rfl rd3 rfl (RdF.cons rfl rd4 rfl (RdF.cons rfl rd37c rfl RdF.nil)))))))))))))
/-- A call. -/
structure ActS where
  kind : Int
  msg : Msg
  voters : List Int
  index : Int
  term : Int
abbrev ActT := Int × MsgT × List Int × Int × Int × Unit
def Rp.actT : Rp ActT := (Rp.int .i64).pair (Rp.msgT.pair ((Rp.int .i64).slice.pair ((Rp.int .i64).pair ((Rp.int .i64).pair Rp.unit))))
theorem rd51 : RdT Try.prog 51 Rp.actT := RdT.struct Try.underlying51 rfl (by kernel_rfl) (RdF.cons rfl rd3 rfl (RdF.cons rfl rd39 rfl (RdF.cons rfl rd26 rfl (RdF.cons rfl rd3 rfl (RdF.cons rfl rd3 rfl RdF.nil)))))
def msgOf : MsgT → Msg
  | (kind, frm, to, e3, e4, e5, (e6, (e7, e8, e9, e10, ()), e11, ()), term, index, logTerm, commit, granted, e17, ()) =>
    { kind := kind, frm := frm, to := to, term := term, index := index, logTerm := logTerm, commit := commit, granted := granted, e3 := e3, e4 := e4, e5 := e5, e6 := e6, e7 := e7, e8 := e8, e9 := e9, e10 := e10, e11 := e11, e17 := e17 }
def actOf : ActT → ActS
  | (kind, m, voters, index, term, ()) => { kind := kind, msg := msgOf m, voters := voters, index := index, term := term }
def actV (a : ActS) (vv : Value) : List Value := .int .i64 a.kind :: (msgV a.msg ++ [vv, .int .i64 a.index, .int .i64 a.term])
theorem msgR {h : Heap} {F : Nat → Prop} {cs : List Value} {m : MsgT} (hr : Rp.msgT.R h F cs m) : cs = msgV (msgOf m) ∧ (msgOf m).ok := by
  obtain ⟨kind, frm, to, e3, e4, e5, ⟨e6, ⟨e7, e8, e9, e10, _⟩, e11, _⟩, term, index, logTerm, commit, granted, e17, _⟩ := m
  obtain ⟨c1, _, rfl, ⟨rfl, _⟩, c2, _, rfl, ⟨rfl, _⟩, c3, _, rfl, ⟨rfl, _⟩, c4, _, rfl, ⟨rfl, o4⟩, c5, _, rfl, ⟨rfl, o5⟩, c6, _, rfl, ⟨rfl, o6⟩, c7, _, rfl, hk, c8, _, rfl, ⟨rfl, _⟩, c9, _, rfl, ⟨rfl, _⟩, c10, _, rfl, ⟨rfl, _⟩, c11, _, rfl, ⟨rfl, _⟩, c12, _, rfl, rfl, c13, _, rfl, ⟨rfl, o13⟩, rfl⟩ := hr
  obtain ⟨d1, _, rfl, ⟨rfl, p1⟩, d2, _, rfl, hp, d3, _, rfl, ⟨rfl, p3⟩, rfl⟩ := hk
  obtain ⟨f1, _, rfl, ⟨rfl, q1⟩, f2, _, rfl, ⟨rfl, q2⟩, f3, _, rfl, ⟨rfl, q3⟩, f4, _, rfl, ⟨rfl, q4⟩, rfl⟩ := hp
  exact ⟨rfl, o4, o5, o6, p1, q1, q2, q3, q4, p3, o13⟩
theorem intsR {h : Heap} {F : Nat → Prop} {cs : List Value} {l : List Int} (hr : (Rp.int .i64).slice.R h F cs l) : ∃ v, cs = [v] ∧ IntS h v l ∧ (∀ b ∈ rdOf v, F b) ∧ ∀ x ∈ l, -9223372036854775808 ≤ x ∧ x ≤ 9223372036854775807 := by
  obtain ⟨v, rfl, hb, _, rows, hs, hl, hr⟩ := hr
  have hx : ∀ (rows : List (List Value)) (l : List Int), rowsR (Rp.int .i64) h F rows l → rows.flatten = intsV l ∧ ∀ x ∈ l, -9223372036854775808 ≤ x ∧ x ≤ 9223372036854775807 := by
    intro rows
    induction rows with
    | nil => intro l hl; have := hl.1; simp at this; rw [List.eq_nil_of_length_eq_zero this.symm]; simp [intsV]
    | cons r rs ih =>
      intro l hl
      match l, hl with
      | [], hl => have := hl.1; simp at this
      | x :: xs, hl =>
        obtain ⟨h1, h2⟩ := ih xs ⟨by have := hl.1; simpa using this, fun i row a hi ha => hl.2 (i + 1) row a (by simpa using hi) (by simpa using ha)⟩
        obtain ⟨rfl, h3⟩ := hl.2 0 r x rfl rfl
        refine ⟨by simp [intsV, h1] , fun y hy => ?_⟩
        rcases List.mem_cons.1 hy with rfl | hy
        · exact wf_i64.1 h3
        · exact h2 y hy
  obtain ⟨h1, h2⟩ := hx rows l ⟨hl, hr⟩
  exact ⟨v, rfl, ⟨h1 ▸ hs⟩, hb, h2⟩
theorem actR {h : Heap} {F : Nat → Prop} {cs : List Value} {a : ActT} (hr : Rp.actT.R h F cs a) : ∃ vv, cs = actV (actOf a) vv ∧ (actOf a).msg.ok ∧ IntS h vv (actOf a).voters ∧ ∀ b ∈ rdOf vv, F b := by
  obtain ⟨kind, m, voters, index, term, _⟩ := a
  obtain ⟨c1, _, rfl, ⟨rfl, _⟩, c2, _, rfl, hm, c3, _, rfl, hv, c4, _, rfl, ⟨rfl, _⟩, c5, _, rfl, ⟨rfl, _⟩, rfl⟩ := hr
  obtain ⟨h1, h2⟩ := msgR hm
  obtain ⟨v, rfl, h3, h4, _⟩ := intsR hv
  subst h1
  exact ⟨v, by simp [actV, actOf], h2, h3, h4⟩
end Go.Proofs.Ytaopehadegknoaa
