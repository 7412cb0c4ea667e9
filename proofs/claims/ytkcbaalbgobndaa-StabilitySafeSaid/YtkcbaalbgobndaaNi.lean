/- Contracts over abstract values: searches in lists of events, the conditions of a closed clock; conditions: those that are named. -/
import Derived.Test.YtkcbaalbgobndaaNh
namespace Go.Proofs.Ytkcbaalbgobndaa
open Go Go.CF
set_option maxRecDepth 20000
def idxN {α : Type} (p : α → Bool) : List α → Nat
  | [] => 0
  | a :: l => if p a then 0 else idxN p l + 1
def idxI {α : Type} (p : α → Bool) (l : List α) : Int := if idxN p l < l.length then idxN p l else -1
theorem idxN_of {α : Type} {p : α → Bool} : ∀ {l : List α} {i : Nat} {x : α}, l[i]? = some x → p x = true → (∀ j y, j < i → l[j]? = some y → p y = false) → idxN p l = i := by
  intro l
  induction l with
  | nil => intro i x h; cases h
  | cons a l ih =>
    intro i x h1 h2 h3
    cases i with
    | zero => cases h1; simp [idxN, h2]
    | succ i =>
      have := h3 0 a (by omega) rfl
      simp [idxN, this, ih h1 h2 fun j y hj hy => h3 (j + 1) y (by omega) hy]
theorem idxN_none {α : Type} {p : α → Bool} : ∀ {l : List α}, (∀ x ∈ l, p x = false) → idxN p l = l.length := by
  intro l
  induction l with
  | nil => intro _; rfl
  | cons a l ih => intro h; simp [idxN, h a (by simp), ih fun x hx => h x (by simp [hx])]
theorem idxN_at {α : Type} {p : α → Bool} : ∀ {l : List α}, idxN p l < l.length → ∃ x, l[idxN p l]? = some x ∧ p x = true ∧ ∀ j y, j < idxN p l → l[j]? = some y → p y = false := by
  intro l
  induction l with
  | nil => intro h; simp at h
  | cons a l ih =>
    intro h
    by_cases ha : p a = true
    · exact ⟨a, by simp [idxN, ha], ha, fun j y hj => by simp [idxN, ha] at hj⟩
    · have he : idxN p (a :: l) = idxN p l + 1 := by simp [idxN, ha]
      obtain ⟨x, h1, h2, h3⟩ := ih (by rw [he] at h; simpa using h)
      refine ⟨x, by rw [he]; exact h1, h2, fun j y hj hy => ?_⟩
      cases j with
      | zero => cases hy; simpa using ha
      | succ j => exact h3 j y (by omega) hy
theorem idxN_le {α : Type} (p : α → Bool) : ∀ l : List α, idxN p l ≤ l.length := by
  intro l
  induction l with
  | nil => exact Nat.le_refl _
  | cons a l ih => simp only [idxN, List.length_cons]; split <;> omega
theorem indexF_p {g : FuncId} {cap : AV} {p : EvS → Bool} (hg : ∀ e, CallP Try.prog g [evA' e, cap] (.val (.bool (p e)))) (he : en g = true) (l : List EvS) :
    CallP Try.prog 35 [evs l, .fn g [cap]] (.val (.int .i64 (idxI p l))) := by
  refine CallA.of pg ord35 Try.func35 rfl Try.ntmps35 Try.results35 rfl fun h0 G0 O0 => ?_
  repeat' (first | refine Sp.h ?_ | refine Lk.r rfl ?_ | refine Rf.mk rfl ?_ | (apply Bd.t; (focus (first | assumption | omega | rfl))) | (apply Bd.f; (focus (first | assumption | omega | exact Bool.false_ne_true))) | (refine Bd.mk ?_ ?_ <;> intro _) | refine OpK.r rfl ?_ | (apply Om.mk; (focus first | omega | (simp <;> omega))) | (refine Im.mk ?_; intro _) | (refine All.mk ?_; intro _) | (apply TkA.r; (focus (repeat (first | exact Take.here | apply Take.there)))) | (apply TkB.r; (focus (repeat (first | exact Take.here | apply Take.there)))) | (apply Ix.q; (focus exact rfl); (focus assumption)) | (apply Ix.r; (focus assumption); (focus omega)) | (apply At.r; (focus assumption)) | refine Ce.l rfl ?_ | refine Ce.r ?_ | refine Ch.l ⟨rfl, rfl⟩ ?_ | refine Ch.r ?_ | (apply SetAk.r; (focus (repeat (first | assumption | exact SetA.z | apply SetA.s)))) | (apply SetAsk.r; (focus (repeat (first | exact SetAs.z | (apply SetAs.c; (focus (repeat (first | assumption | exact SetA.z | apply SetA.s)))))))) | (apply Fk.r; (focus (repeat (first | exact FillA.nil | (apply FillA.agg; (focus rfl); (focus rfl); (focus (repeat (first | exact SetAs.z | (apply SetAs.c; (focus (repeat (first | assumption | exact SetA.z | apply SetA.s)))))))) | (apply FillA.one; (focus rfl); (focus infer_instance); (focus (repeat (first | assumption | exact SetA.z | apply SetA.s)))))))) | (apply Nm.r; (focus repeat (first | apply LN.cons | exact LN.nil))) | refine Rf.mk ⟨rfl, rfl⟩ ?_ | refine Rf.mk ⟨rfl, rfl, rfl⟩ ?_ | (apply Jx.r; (focus exact rfl); (focus first | omega | (simp; done) | (simp; omega))) | refine Up.r rfl ?_ | (apply Up.inv; (focus repeat (first | apply LN.cons | exact LN.nil)); (focus infer_instance)) | (apply Il.r; (focus repeat (first | apply ILit.cons | exact ILit.nil))) | (apply Kf.mk; (focus kernel_rfl)) | (apply TkM.r; (focus (repeat (first | exact Take.here | apply Take.there)))) | refine UpV.r rfl ?_ | (apply Zx.agg; (focus rfl); (focus rfl); (focus repeat (first | apply LN.cons | exact LN.nil))) | apply Zx.one | (apply LkM.s; (focus first | assumption | rfl)) | (apply LkM.n; (focus first | assumption | rfl)) | (apply Rf.mk; (focus assumption)) | refine MkS.r intC 0 rfl ?_ | refine Mp.same ?_ | (apply Mp.lit; (focus repeat (first | exact MpL.nil | (apply MpL.cons; (focus rfl)) | (apply MpL.inv; (focus repeat (first | apply LN.cons | exact LN.nil)); (focus infer_instance))))) | (apply CA.draw; (focus kernel_rfl); (focus kernel_rfl); (focus repeat' (first | apply ON.one | exact ON.done | exact ON.none | apply ON.alt)); (focus rfl)) | exact trivial | (apply Lk.r; (focus assumption)))
  rename_i hll
  refine CA.loop (fun i : Nat => ⟨[(0, evs l), (1, .fn g [cap]), (7, .val (.int .i64 l.length)), (8, .val (.int .i64 i))], []⟩)
    (fun i => i ≤ l.length ∧ ∀ j y, j < i → l[j]? = some y → p y = false) (fun i => l.length - i) 0 ⟨by (repeat (first | exact trivial | refine ⟨rfl, ?_⟩)), by (repeat (first | exact Subl.nil | refine Subl.cons (by (repeat (first | exact Take.here | apply Take.there))) ?_))⟩ ⟨Nat.zero_le _, fun j y h => by omega⟩ ?_
  rintro i ⟨hi, hj⟩
  by_cases hin : i < l.length
  · obtain ⟨e, hx⟩ := get_of hin
    repeat' (first | refine Sp.h ?_ | refine Lk.r rfl ?_ | refine Rf.mk rfl ?_ | (apply Bd.t; (focus (first | assumption | omega | rfl))) | (apply Bd.f; (focus (first | assumption | omega | exact Bool.false_ne_true))) | (refine Bd.mk ?_ ?_ <;> intro _) | refine OpK.r rfl ?_ | (apply Om.mk; (focus first | omega | (simp <;> omega))) | (refine Im.mk ?_; intro _) | (refine All.mk ?_; intro _) | (apply TkA.r; (focus (repeat (first | exact Take.here | apply Take.there)))) | (apply TkB.r; (focus (repeat (first | exact Take.here | apply Take.there)))) | (apply Ix.q; (focus exact rfl); (focus assumption)) | (apply Ix.r; (focus assumption); (focus omega)) | (apply At.r; (focus assumption)) | refine Ce.l rfl ?_ | refine Ce.r ?_ | refine Ch.l ⟨rfl, rfl⟩ ?_ | refine Ch.r ?_ | (apply SetAk.r; (focus (repeat (first | assumption | exact SetA.z | apply SetA.s)))) | (apply SetAsk.r; (focus (repeat (first | exact SetAs.z | (apply SetAs.c; (focus (repeat (first | assumption | exact SetA.z | apply SetA.s)))))))) | (apply Fk.r; (focus (repeat (first | exact FillA.nil | (apply FillA.agg; (focus rfl); (focus rfl); (focus (repeat (first | exact SetAs.z | (apply SetAs.c; (focus (repeat (first | assumption | exact SetA.z | apply SetA.s)))))))) | (apply FillA.one; (focus rfl); (focus infer_instance); (focus (repeat (first | assumption | exact SetA.z | apply SetA.s)))))))) | (apply Nm.r; (focus repeat (first | apply LN.cons | exact LN.nil))) | refine Rf.mk ⟨rfl, rfl⟩ ?_ | refine Rf.mk ⟨rfl, rfl, rfl⟩ ?_ | (apply Jx.r; (focus exact rfl); (focus first | omega | (simp; done) | (simp; omega))) | refine Up.r rfl ?_ | (apply Up.inv; (focus repeat (first | apply LN.cons | exact LN.nil)); (focus infer_instance)) | (apply Il.r; (focus repeat (first | apply ILit.cons | exact ILit.nil))) | (apply Kf.mk; (focus kernel_rfl)) | (apply TkM.r; (focus (repeat (first | exact Take.here | apply Take.there)))) | refine UpV.r rfl ?_ | (apply Zx.agg; (focus rfl); (focus rfl); (focus repeat (first | apply LN.cons | exact LN.nil))) | apply Zx.one | (apply LkM.s; (focus first | assumption | rfl)) | (apply LkM.n; (focus first | assumption | rfl)) | (apply Rf.mk; (focus assumption)) | refine MkS.r intC 0 rfl ?_ | refine Mp.same ?_ | (apply Mp.lit; (focus repeat (first | exact MpL.nil | (apply MpL.cons; (focus rfl)) | (apply MpL.inv; (focus repeat (first | apply LN.cons | exact LN.nil)); (focus infer_instance))))) | (apply CA.draw; (focus kernel_rfl); (focus kernel_rfl); (focus repeat' (first | apply ON.one | exact ON.done | exact ON.none | apply ON.alt)); (focus rfl)) | exact trivial | (apply Lk.r; (focus assumption)) | (apply Cl.p (hg e); (focus repeat' (first | exact Lend.nil | apply Lend.keep | apply Lend.nils | (apply Lend.mp; (focus rfl)) | (apply Lend.lend; (focus (repeat (first | exact Take.here | apply Take.there))); (focus first | omega | (simp; omega))) | (apply Lend.lendm; (focus (repeat (first | exact Take.here | apply Take.there))); (focus rfl); (focus first | omega | decide | (simp; omega) | exact Nat.le_of_ble_eq_true rfl)) | (apply Lend.cell; (focus (repeat (first | exact Take.here | apply Take.there)))) | refine Lend.fn ?_ ?_ | apply Lend.agg))))
    · rename_i hp
      exact Fin.p rfl (by rw [idxI, idxN_of hx hp hj, if_pos hin])
    · rename_i hp
      refine PA.lp (i + 1) ⟨by (repeat (first | exact trivial | refine ⟨rfl, ?_⟩)), by (repeat (first | exact Subl.nil | refine Subl.cons (by (repeat (first | exact Take.here | apply Take.there))) ?_))⟩ ⟨⟨hin, fun j y h1 h2 => ?_⟩, by omega⟩
      by_cases hij : j = i
      · subst hij; rw [hx] at h2; cases h2; simpa using hp
      · exact hj j y (by omega) h2
  · repeat' (first | refine Sp.h ?_ | refine Lk.r rfl ?_ | refine Rf.mk rfl ?_ | (apply Bd.t; (focus (first | assumption | omega | rfl))) | (apply Bd.f; (focus (first | assumption | omega | exact Bool.false_ne_true))) | (refine Bd.mk ?_ ?_ <;> intro _) | refine OpK.r rfl ?_ | (apply Om.mk; (focus first | omega | (simp <;> omega))) | (refine Im.mk ?_; intro _) | (refine All.mk ?_; intro _) | (apply TkA.r; (focus (repeat (first | exact Take.here | apply Take.there)))) | (apply TkB.r; (focus (repeat (first | exact Take.here | apply Take.there)))) | (apply Ix.q; (focus exact rfl); (focus assumption)) | (apply Ix.r; (focus assumption); (focus omega)) | (apply At.r; (focus assumption)) | refine Ce.l rfl ?_ | refine Ce.r ?_ | refine Ch.l ⟨rfl, rfl⟩ ?_ | refine Ch.r ?_ | (apply SetAk.r; (focus (repeat (first | assumption | exact SetA.z | apply SetA.s)))) | (apply SetAsk.r; (focus (repeat (first | exact SetAs.z | (apply SetAs.c; (focus (repeat (first | assumption | exact SetA.z | apply SetA.s)))))))) | (apply Fk.r; (focus (repeat (first | exact FillA.nil | (apply FillA.agg; (focus rfl); (focus rfl); (focus (repeat (first | exact SetAs.z | (apply SetAs.c; (focus (repeat (first | assumption | exact SetA.z | apply SetA.s)))))))) | (apply FillA.one; (focus rfl); (focus infer_instance); (focus (repeat (first | assumption | exact SetA.z | apply SetA.s)))))))) | (apply Nm.r; (focus repeat (first | apply LN.cons | exact LN.nil))) | refine Rf.mk ⟨rfl, rfl⟩ ?_ | refine Rf.mk ⟨rfl, rfl, rfl⟩ ?_ | (apply Jx.r; (focus exact rfl); (focus first | omega | (simp; done) | (simp; omega))) | refine Up.r rfl ?_ | (apply Up.inv; (focus repeat (first | apply LN.cons | exact LN.nil)); (focus infer_instance)) | (apply Il.r; (focus repeat (first | apply ILit.cons | exact ILit.nil))) | (apply Kf.mk; (focus kernel_rfl)) | (apply TkM.r; (focus (repeat (first | exact Take.here | apply Take.there)))) | refine UpV.r rfl ?_ | (apply Zx.agg; (focus rfl); (focus rfl); (focus repeat (first | apply LN.cons | exact LN.nil))) | apply Zx.one | (apply LkM.s; (focus first | assumption | rfl)) | (apply LkM.n; (focus first | assumption | rfl)) | (apply Rf.mk; (focus assumption)) | refine MkS.r intC 0 rfl ?_ | refine Mp.same ?_ | (apply Mp.lit; (focus repeat (first | exact MpL.nil | (apply MpL.cons; (focus rfl)) | (apply MpL.inv; (focus repeat (first | apply LN.cons | exact LN.nil)); (focus infer_instance))))) | (apply CA.draw; (focus kernel_rfl); (focus kernel_rfl); (focus repeat' (first | apply ON.one | exact ON.done | exact ON.none | apply ON.alt)); (focus rfl)) | exact trivial | (apply Lk.r; (focus assumption)))
    exact Fin.p rfl (by rw [idxI, idxN_none (fun x hx => by obtain ⟨j, hx⟩ := List.getElem?_of_mem hx; exact hj j x (by have := (List.getElem?_eq_some_iff.1 hx).1; omega) hx), if_neg (by omega)])
theorem containsF_p {g : FuncId} {cap : AV} {p : EvS → Bool} (hg : ∀ e, CallP Try.prog g [evA' e, cap] (.val (.bool (p e)))) (he : en g = true) (l : List EvS) :
    CallP Try.prog 29 [evs l, .fn g [cap]] (.val (.bool (decide (idxN p l < l.length)))) := by
  refine CallA.of pg ord29 Try.func29 rfl Try.ntmps29 Try.results29 rfl fun h0 G0 O0 => ?_
  repeat' (first | refine Sp.h ?_ | refine Lk.r rfl ?_ | refine Rf.mk rfl ?_ | (apply Bd.t; (focus (first | assumption | omega | rfl))) | (apply Bd.f; (focus (first | assumption | omega | exact Bool.false_ne_true))) | (refine Bd.mk ?_ ?_ <;> intro _) | refine OpK.r rfl ?_ | (apply Om.mk; (focus first | omega | (simp <;> omega))) | (refine Im.mk ?_; intro _) | (refine All.mk ?_; intro _) | (apply TkA.r; (focus (repeat (first | exact Take.here | apply Take.there)))) | (apply TkB.r; (focus (repeat (first | exact Take.here | apply Take.there)))) | (apply Ix.q; (focus exact rfl); (focus assumption)) | (apply Ix.r; (focus assumption); (focus omega)) | (apply At.r; (focus assumption)) | refine Ce.l rfl ?_ | refine Ce.r ?_ | refine Ch.l ⟨rfl, rfl⟩ ?_ | refine Ch.r ?_ | (apply SetAk.r; (focus (repeat (first | assumption | exact SetA.z | apply SetA.s)))) | (apply SetAsk.r; (focus (repeat (first | exact SetAs.z | (apply SetAs.c; (focus (repeat (first | assumption | exact SetA.z | apply SetA.s)))))))) | (apply Fk.r; (focus (repeat (first | exact FillA.nil | (apply FillA.agg; (focus rfl); (focus rfl); (focus (repeat (first | exact SetAs.z | (apply SetAs.c; (focus (repeat (first | assumption | exact SetA.z | apply SetA.s)))))))) | (apply FillA.one; (focus rfl); (focus infer_instance); (focus (repeat (first | assumption | exact SetA.z | apply SetA.s)))))))) | (apply Nm.r; (focus repeat (first | apply LN.cons | exact LN.nil))) | refine Rf.mk ⟨rfl, rfl⟩ ?_ | refine Rf.mk ⟨rfl, rfl, rfl⟩ ?_ | (apply Jx.r; (focus exact rfl); (focus first | omega | (simp; done) | (simp; omega))) | refine Up.r rfl ?_ | (apply Up.inv; (focus repeat (first | apply LN.cons | exact LN.nil)); (focus infer_instance)) | (apply Il.r; (focus repeat (first | apply ILit.cons | exact ILit.nil))) | (apply Kf.mk; (focus kernel_rfl)) | (apply TkM.r; (focus (repeat (first | exact Take.here | apply Take.there)))) | refine UpV.r rfl ?_ | (apply Zx.agg; (focus rfl); (focus rfl); (focus repeat (first | apply LN.cons | exact LN.nil))) | apply Zx.one | (apply LkM.s; (focus first | assumption | rfl)) | (apply LkM.n; (focus first | assumption | rfl)) | (apply Rf.mk; (focus assumption)) | refine MkS.r intC 0 rfl ?_ | refine Mp.same ?_ | (apply Mp.lit; (focus repeat (first | exact MpL.nil | (apply MpL.cons; (focus rfl)) | (apply MpL.inv; (focus repeat (first | apply LN.cons | exact LN.nil)); (focus infer_instance))))) | (apply CA.draw; (focus kernel_rfl); (focus kernel_rfl); (focus repeat' (first | apply ON.one | exact ON.done | exact ON.none | apply ON.alt)); (focus rfl)) | exact trivial | (apply Lk.r; (focus assumption)) | (apply Cl.p (indexF_p hg he l); (focus repeat' (first | exact Lend.nil | apply Lend.keep | apply Lend.nils | (apply Lend.mp; (focus rfl)) | (apply Lend.lend; (focus (repeat (first | exact Take.here | apply Take.there))); (focus first | omega | (simp; omega))) | (apply Lend.lendm; (focus (repeat (first | exact Take.here | apply Take.there))); (focus rfl); (focus first | omega | decide | (simp; omega) | exact Nat.le_of_ble_eq_true rfl)) | (apply Lend.cell; (focus (repeat (first | exact Take.here | apply Take.there)))) | refine Lend.fn ?_ ?_ | apply Lend.agg))))
  refine Fin.p rfl (vb (decide_eq_decide.2 ?_))
  unfold idxI
  split <;> omega
def BadE (n : Nat) (e : EvS) : Prop := ¬ FormedE e ∨ e.past.length ≠ n
noncomputable instance (n : Nat) (e : EvS) : Decidable (BadE n e) := Classical.propDecidable _
def OpenE (c : List Int) (e : EvS) : Prop := HasC c e.rep e.num ∧ AlikeC [c, e.past] ∧ ¬ Ins e.past c
noncomputable instance (c : List Int) (e : EvS) : Decidable (OpenE c e) := Classical.propDecidable _
theorem closed1_p (c : List Int) (e : EvS) : CallP Try.prog 30 [evA' e, .ad [ints c] 0] (.val (.bool (decide (BadE c.length e)))) := by
  refine CallA.of pg ord30 Try.func30 rfl Try.ntmps30 Try.results30 rfl fun h0 G0 O0 => ?_
  repeat' (first | refine Sp.h ?_ | refine Lk.r rfl ?_ | refine Rf.mk rfl ?_ | (apply Bd.t; (focus (first | assumption | omega | rfl))) | (apply Bd.f; (focus (first | assumption | omega | exact Bool.false_ne_true))) | (refine Bd.mk ?_ ?_ <;> intro _) | refine OpK.r rfl ?_ | (apply Om.mk; (focus first | omega | (simp <;> omega))) | (refine Im.mk ?_; intro _) | (refine All.mk ?_; intro _) | (apply TkA.r; (focus (repeat (first | exact Take.here | apply Take.there)))) | (apply TkB.r; (focus (repeat (first | exact Take.here | apply Take.there)))) | (apply Ix.q; (focus exact rfl); (focus assumption)) | (apply Ix.r; (focus assumption); (focus omega)) | (apply At.r; (focus assumption)) | refine Ce.l rfl ?_ | refine Ce.r ?_ | refine Ch.l ⟨rfl, rfl⟩ ?_ | refine Ch.r ?_ | (apply SetAk.r; (focus (repeat (first | assumption | exact SetA.z | apply SetA.s)))) | (apply SetAsk.r; (focus (repeat (first | exact SetAs.z | (apply SetAs.c; (focus (repeat (first | assumption | exact SetA.z | apply SetA.s)))))))) | (apply Fk.r; (focus (repeat (first | exact FillA.nil | (apply FillA.agg; (focus rfl); (focus rfl); (focus (repeat (first | exact SetAs.z | (apply SetAs.c; (focus (repeat (first | assumption | exact SetA.z | apply SetA.s)))))))) | (apply FillA.one; (focus rfl); (focus infer_instance); (focus (repeat (first | assumption | exact SetA.z | apply SetA.s)))))))) | (apply Nm.r; (focus repeat (first | apply LN.cons | exact LN.nil))) | refine Rf.mk ⟨rfl, rfl⟩ ?_ | refine Rf.mk ⟨rfl, rfl, rfl⟩ ?_ | (apply Jx.r; (focus exact rfl); (focus first | omega | (simp; done) | (simp; omega))) | refine Up.r rfl ?_ | (apply Up.inv; (focus repeat (first | apply LN.cons | exact LN.nil)); (focus infer_instance)) | (apply Il.r; (focus repeat (first | apply ILit.cons | exact ILit.nil))) | (apply Kf.mk; (focus kernel_rfl)) | (apply TkM.r; (focus (repeat (first | exact Take.here | apply Take.there)))) | refine UpV.r rfl ?_ | (apply Zx.agg; (focus rfl); (focus rfl); (focus repeat (first | apply LN.cons | exact LN.nil))) | apply Zx.one | (apply LkM.s; (focus first | assumption | rfl)) | (apply LkM.n; (focus first | assumption | rfl)) | (apply Rf.mk; (focus assumption)) | refine MkS.r intC 0 rfl ?_ | refine Mp.same ?_ | (apply Mp.lit; (focus repeat (first | exact MpL.nil | (apply MpL.cons; (focus rfl)) | (apply MpL.inv; (focus repeat (first | apply LN.cons | exact LN.nil)); (focus infer_instance))))) | (apply CA.draw; (focus kernel_rfl); (focus kernel_rfl); (focus repeat' (first | apply ON.one | exact ON.done | exact ON.none | apply ON.alt)); (focus rfl)) | exact trivial | (apply Lk.r; (focus assumption)) | (apply Cl.p (formed_p e); (focus repeat' (first | exact Lend.nil | apply Lend.keep | apply Lend.nils | (apply Lend.mp; (focus rfl)) | (apply Lend.lend; (focus (repeat (first | exact Take.here | apply Take.there))); (focus first | omega | (simp; omega))) | (apply Lend.lendm; (focus (repeat (first | exact Take.here | apply Take.there))); (focus rfl); (focus first | omega | decide | (simp; omega) | exact Nat.le_of_ble_eq_true rfl)) | (apply Lend.cell; (focus (repeat (first | exact Take.here | apply Take.there)))) | refine Lend.fn ?_ ?_ | apply Lend.agg))))
  all_goals refine Fin.p rfl (vb ?_)
  · rename_i h _ _
    refine decide_eq_decide.2 ⟨fun h9 => .inr (by omega), fun h9 => ?_⟩
    rcases h9 with h9 | h9
    · exact absurd h h9
    · omega
  · exact (decide_eq_true (p := BadE c.length e) (Or.inl (by assumption))).symm
theorem closed2_p (c : List Int) (e : EvS) : CallP Try.prog 33 [evA' e, .ad [ints c] 0] (.val (.bool (decide (OpenE c e)))) := by
  refine CallA.of pg ord33 Try.func33 rfl Try.ntmps33 Try.results33 rfl fun h0 G0 O0 => ?_
  repeat' (first | refine Sp.h ?_ | refine Lk.r rfl ?_ | refine Rf.mk rfl ?_ | (apply Bd.t; (focus (first | assumption | omega | rfl))) | (apply Bd.f; (focus (first | assumption | omega | exact Bool.false_ne_true))) | (refine Bd.mk ?_ ?_ <;> intro _) | refine OpK.r rfl ?_ | (apply Om.mk; (focus first | omega | (simp <;> omega))) | (refine Im.mk ?_; intro _) | (refine All.mk ?_; intro _) | (apply TkA.r; (focus (repeat (first | exact Take.here | apply Take.there)))) | (apply TkB.r; (focus (repeat (first | exact Take.here | apply Take.there)))) | (apply Ix.q; (focus exact rfl); (focus assumption)) | (apply Ix.r; (focus assumption); (focus omega)) | (apply At.r; (focus assumption)) | refine Ce.l rfl ?_ | refine Ce.r ?_ | refine Ch.l ⟨rfl, rfl⟩ ?_ | refine Ch.r ?_ | (apply SetAk.r; (focus (repeat (first | assumption | exact SetA.z | apply SetA.s)))) | (apply SetAsk.r; (focus (repeat (first | exact SetAs.z | (apply SetAs.c; (focus (repeat (first | assumption | exact SetA.z | apply SetA.s)))))))) | (apply Fk.r; (focus (repeat (first | exact FillA.nil | (apply FillA.agg; (focus rfl); (focus rfl); (focus (repeat (first | exact SetAs.z | (apply SetAs.c; (focus (repeat (first | assumption | exact SetA.z | apply SetA.s)))))))) | (apply FillA.one; (focus rfl); (focus infer_instance); (focus (repeat (first | assumption | exact SetA.z | apply SetA.s)))))))) | (apply Nm.r; (focus repeat (first | apply LN.cons | exact LN.nil))) | refine Rf.mk ⟨rfl, rfl⟩ ?_ | refine Rf.mk ⟨rfl, rfl, rfl⟩ ?_ | (apply Jx.r; (focus exact rfl); (focus first | omega | (simp; done) | (simp; omega))) | refine Up.r rfl ?_ | (apply Up.inv; (focus repeat (first | apply LN.cons | exact LN.nil)); (focus infer_instance)) | (apply Il.r; (focus repeat (first | apply ILit.cons | exact ILit.nil))) | (apply Kf.mk; (focus kernel_rfl)) | (apply TkM.r; (focus (repeat (first | exact Take.here | apply Take.there)))) | refine UpV.r rfl ?_ | (apply Zx.agg; (focus rfl); (focus rfl); (focus repeat (first | apply LN.cons | exact LN.nil))) | apply Zx.one | (apply LkM.s; (focus first | assumption | rfl)) | (apply LkM.n; (focus first | assumption | rfl)) | (apply Rf.mk; (focus assumption)) | refine MkS.r intC 0 rfl ?_ | refine Mp.same ?_ | (apply Mp.lit; (focus repeat (first | exact MpL.nil | (apply MpL.cons; (focus rfl)) | (apply MpL.inv; (focus repeat (first | apply LN.cons | exact LN.nil)); (focus infer_instance))))) | (apply CA.draw; (focus kernel_rfl); (focus kernel_rfl); (focus repeat' (first | apply ON.one | exact ON.done | exact ON.none | apply ON.alt)); (focus rfl)) | exact trivial | (apply Lk.r; (focus assumption)) | (apply Cl.p (hasC_p _ _ _); (focus repeat' (first | exact Lend.nil | apply Lend.keep | apply Lend.nils | (apply Lend.mp; (focus rfl)) | (apply Lend.lend; (focus (repeat (first | exact Take.here | apply Take.there))); (focus first | omega | (simp; omega))) | (apply Lend.lendm; (focus (repeat (first | exact Take.here | apply Take.there))); (focus rfl); (focus first | omega | decide | (simp; omega) | exact Nat.le_of_ble_eq_true rfl)) | (apply Lend.cell; (focus (repeat (first | exact Take.here | apply Take.there)))) | refine Lend.fn ?_ ?_ | apply Lend.agg))))
  · rename_i h
    (apply Cl.use (missing_o _ _); (focus repeat' (first | exact Lend.nil | apply Lend.keep | apply Lend.nils | (apply Lend.mp; (focus rfl)) | (apply Lend.lend; (focus (repeat (first | exact Take.here | apply Take.there))); (focus first | omega | (simp; omega))) | (apply Lend.lendm; (focus (repeat (first | exact Take.here | apply Take.there))); (focus rfl); (focus first | omega | decide | (simp; omega) | exact Nat.le_of_ble_eq_true rfl)) | (apply Lend.cell; (focus (repeat (first | exact Take.here | apply Take.there)))) | refine Lend.fn ?_ ?_ | apply Lend.agg)); (focus (repeat (first | exact Takes.nil | (apply Takes.cons; (focus (repeat (first | exact Take.here | apply Take.there))))))); (focus rfl))
    rintro _ _ ⟨v, m, rfl, rfl, hm, hml⟩
    repeat' (first | refine Sp.h ?_ | refine Lk.r rfl ?_ | refine Rf.mk rfl ?_ | (apply Bd.t; (focus (first | assumption | omega | rfl))) | (apply Bd.f; (focus (first | assumption | omega | exact Bool.false_ne_true))) | (refine Bd.mk ?_ ?_ <;> intro _) | refine OpK.r rfl ?_ | (apply Om.mk; (focus first | omega | (simp <;> omega))) | (refine Im.mk ?_; intro _) | (refine All.mk ?_; intro _) | (apply TkA.r; (focus (repeat (first | exact Take.here | apply Take.there)))) | (apply TkB.r; (focus (repeat (first | exact Take.here | apply Take.there)))) | (apply Ix.q; (focus exact rfl); (focus assumption)) | (apply Ix.r; (focus assumption); (focus omega)) | (apply At.r; (focus assumption)) | refine Ce.l rfl ?_ | refine Ce.r ?_ | refine Ch.l ⟨rfl, rfl⟩ ?_ | refine Ch.r ?_ | (apply SetAk.r; (focus (repeat (first | assumption | exact SetA.z | apply SetA.s)))) | (apply SetAsk.r; (focus (repeat (first | exact SetAs.z | (apply SetAs.c; (focus (repeat (first | assumption | exact SetA.z | apply SetA.s)))))))) | (apply Fk.r; (focus (repeat (first | exact FillA.nil | (apply FillA.agg; (focus rfl); (focus rfl); (focus (repeat (first | exact SetAs.z | (apply SetAs.c; (focus (repeat (first | assumption | exact SetA.z | apply SetA.s)))))))) | (apply FillA.one; (focus rfl); (focus infer_instance); (focus (repeat (first | assumption | exact SetA.z | apply SetA.s)))))))) | (apply Nm.r; (focus repeat (first | apply LN.cons | exact LN.nil))) | refine Rf.mk ⟨rfl, rfl⟩ ?_ | refine Rf.mk ⟨rfl, rfl, rfl⟩ ?_ | (apply Jx.r; (focus exact rfl); (focus first | omega | (simp; done) | (simp; omega))) | refine Up.r rfl ?_ | (apply Up.inv; (focus repeat (first | apply LN.cons | exact LN.nil)); (focus infer_instance)) | (apply Il.r; (focus repeat (first | apply ILit.cons | exact ILit.nil))) | (apply Kf.mk; (focus kernel_rfl)) | (apply TkM.r; (focus (repeat (first | exact Take.here | apply Take.there)))) | refine UpV.r rfl ?_ | (apply Zx.agg; (focus rfl); (focus rfl); (focus repeat (first | apply LN.cons | exact LN.nil))) | apply Zx.one | (apply LkM.s; (focus first | assumption | rfl)) | (apply LkM.n; (focus first | assumption | rfl)) | (apply Rf.mk; (focus assumption)) | refine MkS.r intC 0 rfl ?_ | refine Mp.same ?_ | (apply Mp.lit; (focus repeat (first | exact MpL.nil | (apply MpL.cons; (focus rfl)) | (apply MpL.inv; (focus repeat (first | apply LN.cons | exact LN.nil)); (focus infer_instance))))) | (apply CA.draw; (focus kernel_rfl); (focus kernel_rfl); (focus repeat' (first | apply ON.one | exact ON.done | exact ON.none | apply ON.alt)); (focus rfl)) | exact trivial | (apply Lk.r; (focus assumption)))
    refine Fin.p rfl (vb (decide_eq_decide.2 ?_))
    cases m with
    | nil => exact ⟨fun h9 => absurd h9 (by simp), fun h9 => absurd (hm.1 rfl h9.2.1) h9.2.2⟩
    | cons s m =>
      refine ⟨fun _ => ⟨h, ?_⟩, fun _ => by simp⟩
      have h9 : ¬ (AlikeC [c, e.past] → Ins e.past c) := fun h9 => by cases hm.2 h9
      exact ⟨Classical.byContradiction fun h8 => h9 fun h7 => absurd h7 h8, fun h8 => h9 fun _ => h8⟩
  · rename_i h
    exact Fin.p rfl (vb (decide_eq_false (fun h9 => h h9.1)).symm)
/-- One step down: the first open event is taken out. -/
noncomputable def lowI (l : List EvS) (c : List Int) : Nat := idxN (fun e => decide (OpenE c e)) l
inductive Low (l : List EvS) : List Int → List Int → Prop where
  | stop {c : List Int} : (∀ e ∈ l, ¬ OpenE c e) → Low l c c
  | step {c r : List Int} {e : EvS} : l[lowI l c]? = some e → OpenE c e → Low l (c.set e.rep.toNat (e.num - 1)) r → Low l c r
def msr (c : List Int) : Nat := (c.map Int.toNat).sum
theorem msr_set : ∀ {c : List Int} {i : Nat} {x y : Int}, c[i]? = some x → 0 ≤ y → y < x → msr (c.set i y) < msr c := by
  intro c
  induction c with
  | nil => intro i x y h; cases h
  | cons a c ih =>
    intro i x y h h1 h2
    cases i with
    | zero => cases h; simp only [msr, List.set_cons_zero, List.map_cons, List.sum_cons]; omega
    | succ i =>
      have := ih (i := i) h h1 h2
      simp only [msr, List.set_cons_succ, List.map_cons, List.sum_cons] at this ⊢
      omega
theorem open_set {c : List Int} {e : EvS} (h : OpenE c e) : msr (c.set e.rep.toNat (e.num - 1)) < msr c ∧ ValC (c.set e.rep.toNat (e.num - 1)) ∧ e.rep.toNat < c.length ∧ 0 ≤ e.rep ∧ 1 ≤ e.num ∧ e.num ≤ 1024 := by
  obtain ⟨⟨h1, h2, h3, x, hx, h4⟩, -, -⟩ := h
  have hx2 := h1.1 x (List.mem_of_getElem? hx)
  unfold rngK at hx2
  refine ⟨msr_set hx (by omega) (by omega), ⟨fun y hy => ?_, by rw [List.length_set]; exact h1.2⟩, (List.getElem?_eq_some_iff.1 hx).1, h2, h3, by omega⟩
  rcases List.mem_or_eq_of_mem_set hy with hy | rfl
  · exact h1.1 y hy
  · unfold rngK; omega
theorem low_at {l : List EvS} {c : List Int} (h : lowI l c < l.length) : ∃ e, l[lowI l c]? = some e ∧ OpenE c e ∧ ∀ j y, j < lowI l c → l[j]? = some y → ¬ OpenE c y := by
  obtain ⟨e, h1, h2, h3⟩ := idxN_at h
  exact ⟨e, h1, of_decide_eq_true h2, fun j y hj hy => of_decide_eq_false (h3 j y hj hy)⟩
theorem idx_mem {α : Type} {p : α → Bool} {e : α} : ∀ {l : List α}, e ∈ l → p e = true → idxN p l < l.length := by
  intro l
  induction l with
  | nil => intro h; cases h
  | cons a l ih =>
    intro h ho
    by_cases ha : p a = true
    · simp [idxN, ha]
    · rcases List.mem_cons.1 h with rfl | h9
      · exact absurd ho ha
      · simp [idxN, ha, ih h9 ho]
theorem low_no {l : List EvS} {c : List Int} (h : ¬ lowI l c < l.length) : ∀ e ∈ l, ¬ OpenE c e := by
  intro e he ho
  exact h (idx_mem (p := fun e => decide (OpenE c e)) he (decide_eq_true ho))
theorem low_yes {l : List EvS} {c : List Int} (h : ∀ e ∈ l, ¬ OpenE c e) : ¬ lowI l c < l.length := fun h9 => by
  obtain ⟨e, h1, h2, -⟩ := low_at h9
  exact h e (List.mem_of_getElem? h1) h2
theorem low_ex (l : List EvS) : ∀ (n : Nat) (c : List Int), msr c ≤ n → ∃ r, Low l c r := by
  intro n
  induction n with
  | zero =>
    intro c h
    by_cases hi : lowI l c < l.length
    · obtain ⟨e, h1, h2, -⟩ := low_at hi
      have := (open_set h2).1
      omega
    · exact ⟨c, .stop (low_no hi)⟩
  | succ n ih =>
    intro c h
    by_cases hi : lowI l c < l.length
    · obtain ⟨e, h1, h2, -⟩ := low_at hi
      obtain ⟨r, hr⟩ := ih (c.set e.rep.toNat (e.num - 1)) (by have := (open_set h2).1; omega)
      exact ⟨r, .step h1 h2 hr⟩
    · exact ⟨c, .stop (low_no hi)⟩
def AllE (l : List EvS) (c : List Int) : Prop := ValC c ∧ ∀ e ∈ l, FormedE e ∧ e.past.length = c.length
theorem all_bad {l : List EvS} {c : List Int} (hv : ValC c) : AllE l c ↔ ¬ idxN (fun e => decide (BadE c.length e)) l < l.length := by
  constructor
  · intro h h9
    obtain ⟨e, h1, h2, -⟩ := idxN_at h9
    have h3 := h.2 e (List.mem_of_getElem? h1)
    rcases of_decide_eq_true h2 with h4 | h4
    · exact h4 h3.1
    · exact h4 h3.2
  · intro h
    refine ⟨hv, fun e he => ?_⟩
    have : idxN (fun e => decide (BadE c.length e)) l = l.length := Nat.le_antisymm (idxN_le _ _) (by omega)
    by_cases hb : BadE c.length e
    · exact absurd (idx_mem (p := fun e => decide (BadE c.length e)) he (decide_eq_true hb)) h
    · unfold BadE at hb
      exact ⟨Classical.byContradiction fun h8 => hb (.inl h8), by omega⟩
end Go.Proofs.Ytkcbaalbgobndaa
