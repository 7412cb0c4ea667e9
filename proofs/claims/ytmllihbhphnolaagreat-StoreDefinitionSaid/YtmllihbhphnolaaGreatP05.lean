/- Part 5 of the ground of this proof: what its texts say of the model, the program and the plain data; conditions: those that are named. -/
import Derived.Test.YtmllihbhphnolaaGreatP04
namespace Go.Proofs.YtmllihbhphnolaaGreat
open Go Go.CF
set_option maxRecDepth 20000
abbrev sv (s : ByteArray) : AV := .val (.string s)
def isWhite (x : Int) : Prop := x = 9 ∨ x = 10 ∨ x = 13 ∨ x = 32
noncomputable instance (x : Int) : Decidable (isWhite x) := Classical.propDecidable _
theorem white_p (x : Int) : CallP Tryz.prog 301 [.val (.int .u8 x)] (.val (.bool (decide (isWhite x)))) := by
 refine CallA.of pg ord301 Tryz.func301 rfl Tryz.ntmps301 Tryz.results301 rfl fun h0 G0 O0 => ?_
 repeat' (first|refine Sp.h ?_|refine Lk.r rfl ?_|refine Rf.mk rfl ?_|(apply Bd.t;(focus first|assumption|omega|rfl))|(apply Bd.f;(focus first|assumption|omega|exact Bool.false_ne_true))|(refine Bd.mk ?_ ?_ <;> intro _)|(apply Nm.r;focus repeat constructor)|fail)
 all_goals refine Fin.p rfl (vb ?_)
 all_goals first
  | exact decide_eq_decide.2 (by unfold isWhite;omega)
  | exact (decide_eq_true (by unfold isWhite;omega)).symm
def isLetter (x : Int) : Prop := 97 ≤ x ∧ x ≤ 122
noncomputable instance (x : Int) : Decidable (isLetter x) := Classical.propDecidable _
theorem letter_p (x : Int) : CallP Tryz.prog 302 [.val (.int .u8 x)] (.val (.bool (decide (isLetter x)))) := by
 refine CallA.of pg ord302 Tryz.func302 rfl Tryz.ntmps302 Tryz.results302 rfl fun h0 G0 O0 => ?_
 repeat' (first|refine Sp.h ?_|refine Lk.r rfl ?_|refine Rf.mk rfl ?_|(apply Bd.t;(focus first|assumption|omega|rfl))|(apply Bd.f;(focus first|assumption|omega|exact Bool.false_ne_true))|(refine Bd.mk ?_ ?_ <;> intro _)|(apply Nm.r;focus repeat constructor)|fail)
 all_goals refine Fin.p rfl (vb ?_)
 all_goals first
  | exact decide_eq_decide.2 (by unfold isLetter;omega)
  | exact (decide_eq_false (by unfold isLetter;omega)).symm
def isDigit (x : Int) : Prop := 48 ≤ x ∧ x ≤ 57
noncomputable instance (x : Int) : Decidable (isDigit x) := Classical.propDecidable _
theorem digit_p (x : Int) : CallP Tryz.prog 303 [.val (.int .u8 x)] (.val (.bool (decide (isDigit x)))) := by
 refine CallA.of pg ord303 Tryz.func303 rfl Tryz.ntmps303 Tryz.results303 rfl fun h0 G0 O0 => ?_
 repeat' (first|refine Sp.h ?_|refine Lk.r rfl ?_|refine Rf.mk rfl ?_|(apply Bd.t;(focus first|assumption|omega|rfl))|(apply Bd.f;(focus first|assumption|omega|exact Bool.false_ne_true))|(refine Bd.mk ?_ ?_ <;> intro _)|(apply Nm.r;focus repeat constructor)|fail)
 all_goals refine Fin.p rfl (vb ?_)
 all_goals first
  | exact decide_eq_decide.2 (by unfold isDigit;omega)
  | exact (decide_eq_false (by unfold isDigit;omega)).symm
inductive Comm (s : ByteArray) : Nat → Nat → Prop where
 | stop {a : Nat} : ¬ (a < s.size ∧ byteAt s a ≠ 10) → Comm s a a
 | step {a j : Nat} : a < s.size → byteAt s a ≠ 10 → Comm s (a + 1) j → Comm s a j
inductive Skip (s : ByteArray) : Nat → Nat → Prop where
 | stop {a : Nat} : ¬ (a < s.size ∧ (isWhite (byteAt s a) ∨ byteAt s a = 35)) → Skip s a a
 | white {a j : Nat} : a < s.size → byteAt s a ≠ 35 → isWhite (byteAt s a) → Skip s (a + 1) j → Skip s a j
 | com {a b j : Nat} : a < s.size → byteAt s a = 35 → Comm s a b → Skip s b j → Skip s a j
theorem Comm.le {s : ByteArray} {a j : Nat} (h : Comm s a j) (ha : a ≤ s.size) : a ≤ j ∧ j ≤ s.size := by
 induction h with
 | stop => exact ⟨Nat.le_refl _, ha⟩
 | step h1 _ _ ih => have := ih h1;omega
theorem Comm.lt {s : ByteArray} {a j : Nat} (h : Comm s a j) (ha : a < s.size) (hb : byteAt s a = 35) : a < j ∧ j ≤ s.size := by
 cases h with
 | stop h => exact absurd ⟨ha, by omega⟩ h
 | step h1 _ h3 => have := h3.le h1;omega
theorem Comm.ex (s : ByteArray) : ∀ (n a : Nat), s.size - a = n → ∃ j, Comm s a j := by
 intro n
 induction n with
 | zero => exact fun a h => ⟨a, .stop (by omega)⟩
 | succ n ih =>
  intro a h
  by_cases h1 : byteAt s a = 10
  ·exact ⟨a, .stop (by omega)⟩
  ·obtain ⟨j, hj⟩ := ih (a + 1) (by omega)
   exact ⟨j, .step (by omega) h1 hj⟩
theorem Skip.le {s : ByteArray} {a j : Nat} (h : Skip s a j) : a ≤ s.size → a ≤ j ∧ j ≤ s.size ∧ (j < s.size → ¬ isWhite (byteAt s j) ∧ byteAt s j ≠ 35) := by
 induction h with
 | stop h => exact fun ha => ⟨Nat.le_refl _, ha, fun hl => ⟨fun h9 => h ⟨hl, .inl h9⟩, fun h9 => h ⟨hl, .inr h9⟩⟩⟩
 | white h1 _ _ _ ih => intro ha;have := ih h1;exact ⟨by omega, this.2⟩
 | com h1 h2 h3 _ ih => intro ha;have h9 := h3.lt h1 h2;have := ih h9.2;exact ⟨by omega, this.2⟩
theorem Skip.ex (s : ByteArray) (n : Nat) : ∀ a : Nat, s.size - a = n → ∃ j, Skip s a j := by
 induction n using Nat.strongRecOn with
 | ind n ih =>
  intro a h
  by_cases hc : a < s.size ∧ (isWhite (byteAt s a) ∨ byteAt s a = 35)
  ·by_cases h2 : byteAt s a = 35
   ·obtain ⟨b, hb⟩ := Comm.ex s _ a rfl
    have h9 := hb.lt hc.1 h2
    obtain ⟨j, hj⟩ := ih (s.size - b) (by omega) b rfl
    exact ⟨j, .com hc.1 h2 hb hj⟩
   ·obtain ⟨j, hj⟩ := ih (s.size - (a + 1)) (by omega) (a + 1) rfl
    exact ⟨j, .white hc.1 h2 (hc.2.resolve_right h2) hj⟩
  ·exact ⟨a, .stop hc⟩
theorem skip_p {s : ByteArray} {a j : Nat} (hs : s.size ≤ 1000000000) (ha : a ≤ s.size) (h : Skip s a j) : CallP Tryz.prog 298 [sv s, .val (.int .i64 a)] (.val (.int .i64 j)) := by
 refine CallA.of pg ord298 Tryz.func298 rfl Tryz.ntmps298 Tryz.results298 rfl fun h0 G0 O0 => ?_
 repeat' (first|refine Sp.h ?_|refine Lk.r rfl ?_|refine Rf.mk rfl ?_|fail)
 refine CA.loop (fun a : Nat => ⟨[(0, sv s), (1, .val (.int .i64 a))], []⟩) (fun a => a ≤ s.size ∧ Skip s a j) (fun a => s.size - a) a ⟨by repeat first|trivial|refine ⟨rfl,?_⟩,by repeat first|exact .nil|refine .cons (by repeat constructor) ?_⟩ ⟨ha, h⟩ ?_
 rintro a ⟨ha, h⟩
 cases h with
 | stop hn =>
  by_cases hl : j < s.size
  ·have hw : ¬ isWhite (byteAt s j) := fun h9 => hn ⟨hl, .inl h9⟩
   have h35 : byteAt s j ≠ 35 := fun h9 => hn ⟨hl, .inr h9⟩
   repeat' (first|refine Sp.h ?_|refine Lk.r rfl ?_|refine Rf.mk rfl ?_|(apply Bd.t;(focus first|assumption|omega|rfl))|(apply Bd.f;(focus first|assumption|omega|exact Bool.false_ne_true))|(apply Nm.r;focus repeat constructor)|(apply Sx.r;(focus exact rfl);(focus first|omega|(simp;omega)))|(apply Cl.p (white_p _);(focus repeat' (first|exact Lend.nil|apply Lend.keep|fail))))
   exact Fin.p rfl rfl
  ·repeat' (first|refine Sp.h ?_|refine Lk.r rfl ?_|refine Rf.mk rfl ?_|(apply Bd.f;(focus first|assumption|omega|exact Bool.false_ne_true))|(apply Nm.r;focus repeat constructor)|(apply Cl.p (white_p _);(focus repeat' (first|fail))))
   exact Fin.p rfl rfl
 | white h1 h2 h3 h4 =>
  repeat' (first|refine Sp.h ?_|refine Lk.r rfl ?_|refine Rf.mk rfl ?_|(apply Bd.t;(focus first|assumption|omega|rfl))|(apply Bd.f;(focus first|assumption|omega|exact Bool.false_ne_true))|(apply Sx.r;(focus exact rfl);(focus first|omega|(simp;omega)))|(apply Ov.n;(focus first|omega|(simp <;> omega)))|(apply Cl.p (white_p _);(focus repeat' (first|exact Lend.nil|apply Lend.keep|fail))))
  exact PA.lp (a + 1) ⟨by repeat first|trivial|refine ⟨rfl,?_⟩,by repeat first|exact .nil|refine .cons (by repeat constructor) ?_⟩ ⟨⟨h1, h4⟩, by omega⟩
 | com h1 h2 h3 h4 =>
  rename_i b
  have hw : ¬ isWhite (byteAt s a) := by unfold isWhite;omega
  have hb := h3.lt h1 h2
  repeat' (first|refine Sp.h ?_|refine Lk.r rfl ?_|refine Rf.mk rfl ?_|(apply Bd.t;(focus first|assumption|omega|rfl))|(apply Bd.f;(focus first|assumption|omega|exact Bool.false_ne_true))|(apply Sx.r;(focus exact rfl);(focus first|omega|(simp;omega)))|(apply Cl.p (white_p _);(focus repeat' (first|exact Lend.nil|apply Lend.keep|fail))))
  refine CA.loop (fun a : Nat => ⟨[(0, sv s), (1, .val (.int .i64 a))], []⟩) (fun a => a ≤ s.size ∧ Comm s a b) (fun a => s.size - a) a ⟨by repeat first|trivial|refine ⟨rfl,?_⟩,by repeat first|exact .nil|refine .cons (by repeat constructor) ?_⟩ ⟨ha, h3⟩ ?_
  rintro a2 ⟨ha2, h⟩
  cases h with
  | stop hn =>
   by_cases hl : b < s.size
   ·have h10 : byteAt s b = 10 := Classical.byContradiction fun h9 => hn ⟨hl, h9⟩
    repeat' (first|refine Sp.h ?_|refine Lk.r rfl ?_|refine Rf.mk rfl ?_|(apply Bd.t;(focus first|assumption|omega|rfl))|(apply Sx.r;(focus exact rfl);(focus first|omega|(simp;omega)))|fail)
    exact PA.lp b ⟨by repeat first|trivial|refine ⟨rfl,?_⟩,by repeat first|exact .nil|refine .cons (by repeat constructor) ?_⟩ ⟨⟨ha2, h4⟩, by omega⟩
   ·repeat' (first|refine Sp.h ?_|refine Lk.r rfl ?_|refine Rf.mk rfl ?_|(apply Bd.f;(focus first|assumption|omega|exact Bool.false_ne_true))|fail)
    exact PA.lp b ⟨by repeat first|trivial|refine ⟨rfl,?_⟩,by repeat first|exact .nil|refine .cons (by repeat constructor) ?_⟩ ⟨⟨ha2, h4⟩, by omega⟩
  | step g1 g2 g3 =>
   repeat' (first|refine Sp.h ?_|refine Lk.r rfl ?_|refine Rf.mk rfl ?_|(apply Bd.t;(focus first|assumption|omega|rfl))|(apply Bd.f;(focus first|assumption|omega|exact Bool.false_ne_true))|(apply Sx.r;(focus exact rfl);(focus first|omega|(simp;omega)))|(apply Ov.n;(focus first|omega|(simp <;> omega)))|fail)
   exact PA.lp (a2 + 1) ⟨by repeat first|trivial|refine ⟨rfl,?_⟩,by repeat first|exact .nil|refine .cons (by repeat constructor) ?_⟩ ⟨⟨g1, g3⟩, by omega⟩
def strC (q : ByteArray) : List AV := [sv q]
def HasS (l : List ByteArray) (s : ByteArray) : Prop := ∃ q ∈ l, q.toList = s.toList
noncomputable instance (l : List ByteArray) (s : ByteArray) : Decidable (HasS l s) := Classical.propDecidable _
theorem has_p (l : List ByteArray) (s : ByteArray) : CallP Tryz.prog 233 [.sl 1 l strC, sv s] (.val (.bool (decide (HasS l s)))) := by
 refine CallA.of pg ord233 Tryz.func233 rfl Tryz.ntmps233 Tryz.results233 rfl fun h0 G0 O0 => ?_
 repeat' (first|refine Sp.h ?_|refine Lk.r rfl ?_|refine Rf.mk rfl ?_|fail)
 refine CA.loop (fun i : Nat => ⟨[(0, .sl 1 l strC), (1, sv s), (5, .val (.int .i64 i))], []⟩) (fun i => i ≤ l.length ∧ ∀ j q, j < i → l[j]? = some q → q.toList ≠ s.toList) (fun i => l.length - i) 0 ⟨by repeat first|trivial|refine ⟨rfl,?_⟩,by repeat first|exact .nil|refine .cons (by repeat constructor) ?_⟩ ⟨Nat.zero_le _, fun j q h => by omega⟩ ?_
 rintro i ⟨hi, hj⟩
 by_cases hin : i < l.length
 ·obtain ⟨q, hq⟩ := get_of hin
  repeat' (first|refine Sp.h ?_|refine Lk.r rfl ?_|refine Rf.mk rfl ?_|(apply Bd.t;(focus first|assumption|omega|rfl))|(refine Bd.mk ?_ ?_ <;> intro _)|(refine Im.mk ?_;intro _)|(apply Ix.q;(focus exact rfl);(focus assumption))|(apply Nm.r;focus repeat constructor)|(apply Ov.n;(focus first|omega|(simp <;> omega)))|fail)
  ·rename_i h
   exact Fin.p rfl (vb (decide_eq_true (show HasS l s from ⟨q, List.mem_of_getElem? hq, h⟩)).symm)
  ·rename_i h
   refine PA.lp (i + 1) ⟨by repeat first|trivial|refine ⟨rfl,?_⟩,by repeat first|exact .nil|refine .cons (by repeat constructor) ?_⟩ ⟨⟨hin, fun j y h1 h2 => ?_⟩, by omega⟩
   by_cases hij : j = i
   ·subst hij;rw [hq] at h2;cases h2;exact h
   ·exact hj j y (by omega) h2
 ·repeat' (first|refine Sp.h ?_|refine Lk.r rfl ?_|refine Rf.mk rfl ?_|(apply Bd.f;(focus first|assumption|omega|exact Bool.false_ne_true))|(refine Im.mk ?_;intro _)|(apply Nm.r;focus repeat constructor)|fail)
  refine Fin.p rfl (vb (decide_eq_false ?_).symm)
  rintro ⟨q, hq, h⟩
  obtain ⟨j, hq⟩ := List.getElem?_of_mem hq
  exact hj j q (by have := (List.getElem?_eq_some_iff.1 hq).1;omega) hq h
def symL : List ByteArray := [⟨#[61, 61]⟩, ⟨#[33, 61]⟩, ⟨#[60, 61]⟩, ⟨#[62, 61]⟩, ⟨#[46, 46]⟩, ⟨#[60]⟩, ⟨#[62]⟩, ⟨#[61]⟩, ⟨#[43]⟩, ⟨#[45]⟩, ⟨#[42]⟩, ⟨#[40]⟩, ⟨#[41]⟩, ⟨#[123]⟩, ⟨#[125]⟩, ⟨#[44]⟩, ⟨#[58]⟩, ⟨#[59]⟩]
def kwL : List ByteArray := [⟨#[115, 111, 114, 116]⟩, ⟨#[114, 101, 108, 97, 116, 105, 111, 110]⟩, ⟨#[99, 111, 117, 110, 116, 101, 114]⟩, ⟨#[115, 101, 116]⟩, ⟨#[114, 101, 103, 105, 115, 116, 101, 114]⟩, ⟨#[105, 110, 118, 97, 114, 105, 97, 110, 116]⟩, ⟨#[111, 112, 101, 114, 97, 116, 105, 111, 110]⟩, ⟨#[107, 101, 121]⟩, ⟨#[114, 101, 102, 101, 114, 101, 110, 99, 101]⟩, ⟨#[116, 111]⟩, ⟨#[99, 111, 117, 110, 116]⟩, ⟨#[97, 99, 121, 99, 108, 105, 99]⟩, ⟨#[97, 108, 108]⟩, ⟨#[115, 117, 109]⟩, ⟨#[105, 110]⟩, ⟨#[97, 100, 100, 119, 105, 110, 115]⟩, ⟨#[114, 101, 109, 111, 118, 101, 119, 105, 110, 115]⟩, ⟨#[108, 97, 115, 116]⟩, ⟨#[109, 117, 108, 116, 105]⟩, ⟨#[104, 105, 100, 101]⟩, ⟨#[111, 114, 100, 101, 114, 101, 100]⟩, ⟨#[114, 101, 113, 117, 105, 114, 101]⟩, ⟨#[104, 111, 108, 100]⟩, ⟨#[105, 110, 115, 101, 114, 116]⟩, ⟨#[100, 101, 108, 101, 116, 101]⟩, ⟨#[97, 100, 100]⟩, ⟨#[102, 114, 111, 109]⟩, ⟨#[112, 117, 116]⟩, ⟨#[100, 114, 111, 112]⟩, ⟨#[97, 115, 115, 105, 103, 110]⟩, ⟨#[102, 111, 114]⟩, ⟨#[119, 104, 101, 114, 101]⟩, ⟨#[97, 110, 100]⟩, ⟨#[111, 114]⟩, ⟨#[110, 111, 116]⟩]
theorem symbols_o : CallO Tryz.prog 307 [] 9 1 (symL.map strC) id := by
 refine CallA.of pg ord307 Tryz.func307 rfl Tryz.ntmps307 Tryz.results307 rfl fun h0 G0 O0 => ?_
 repeat' (first|refine Sp.h ?_|refine Lk.r rfl ?_|refine Rf.mk rfl ?_|(refine All.mk ?_;intro _)|(apply Fk.r;(focus (repeat (first|exact FillA.nil|(apply FillA.agg;(focus rfl);(focus rfl);(focus (repeat (first|exact SetAs.z|(apply SetAs.c;(focus (repeat first|assumption|constructor)))))))|(apply FillA.one;(focus rfl);(focus infer_instance);(focus (repeat first|assumption|constructor)))))))|(apply Nm.r;focus repeat constructor)|refine Rf.mk ⟨rfl, rfl, rfl⟩ ?_|fail)
 exact ⟨_, _, .one (.same (.nil (by (repeat first|exact .nil|refine .cons (by repeat constructor) ?_)))), _, rfl, rfl⟩
theorem symbols_p : CallP Tryz.prog 307 [] (.sl 1 symL strC) := CallA.fzm (by decide) (List.map_id _).symm symbols_o
theorem keywords_o : CallO Tryz.prog 304 [] 9 1 (kwL.map strC) id := by
 refine CallA.of pg ord304 Tryz.func304 rfl Tryz.ntmps304 Tryz.results304 rfl fun h0 G0 O0 => ?_
 repeat' (first|refine Sp.h ?_|refine Lk.r rfl ?_|refine Rf.mk rfl ?_|(refine All.mk ?_;intro _)|(apply Fk.r;(focus (repeat (first|exact FillA.nil|(apply FillA.agg;(focus rfl);(focus rfl);(focus (repeat (first|exact SetAs.z|(apply SetAs.c;(focus (repeat first|assumption|constructor)))))))|(apply FillA.one;(focus rfl);(focus infer_instance);(focus (repeat first|assumption|constructor)))))))|(apply Nm.r;focus repeat constructor)|refine Rf.mk ⟨rfl, rfl, rfl⟩ ?_|fail)
 exact ⟨_, _, .one (.same (.nil (by (repeat first|exact .nil|refine .cons (by repeat constructor) ?_)))), _, rfl, rfl⟩
theorem keywords_p : CallP Tryz.prog 304 [] (.sl 1 kwL strC) := CallA.fzm (by decide) (List.map_id _).symm keywords_o
/-! ### Symbols -/
def symOK (s : ByteArray) (a : Nat) (q : ByteArray) : Prop := a + q.size ≤ s.size ∧ (s.extract a (a + q.size)).toList = q.toList
noncomputable instance (s : ByteArray) (a : Nat) (q : ByteArray) : Decidable (symOK s a q) := Classical.propDecidable _
noncomputable def symF (L : List ByteArray) (s : ByteArray) (a : Nat) : Nat := ((L.find? fun q => decide (symOK s a q)).map ByteArray.size).getD 0
theorem find_at {α : Type} {p : α → Bool} : ∀ {l : List α} {i : Nat} {x : α}, l[i]? = some x → p x = true → (∀ j y, j < i → l[j]? = some y → p y = false) → l.find? p = some x := by
 intro l
 induction l with
 | nil => intro i x h;cases h
 | cons a l ih =>
  intro i x h1 h2 h3
  cases i with
  | zero => cases h1;simp [h2]
  | succ i =>
   have h4 := h3 0 a (by omega) rfl
   rw [List.find?_cons, h4]
   exact ih h1 h2 fun j y hj hy => h3 (j + 1) y (by omega) hy
theorem symL_size : ∀ q ∈ symL, q.size ≤ 2 := by decide
theorem symF_le {s : ByteArray} {a : Nat} (ha : a ≤ s.size) : a + symF symL s a ≤ s.size := by
 unfold symF
 cases h : symL.find? fun q => decide (symOK s a q) with
 | none => exact ha
 | some q => exact (of_decide_eq_true (p := symOK s a q) (List.find?_some (p := fun q => decide (symOK s a q)) h)).1
theorem symbol_p {s : ByteArray} {a : Nat} (hs : s.size ≤ 1000000000) (ha : a ≤ s.size) : CallP Tryz.prog 305 [sv s, .val (.int .i64 a)] (.val (.int .i64 (symF symL s a))) := by
 obtain ⟨L, hL⟩ : ∃ L, L = symL := ⟨_, rfl⟩
 have hp := symbols_p
 have hsz := symL_size
 rw [← hL] at hp hsz ⊢
 refine CallA.of pg ord305 Tryz.func305 rfl Tryz.ntmps305 Tryz.results305 rfl fun h0 G0 O0 => ?_
 repeat' (first|refine Sp.h ?_|refine Lk.r rfl ?_|refine Rf.mk rfl ?_|(apply Cl.p (hp);(focus repeat' (first|exact Lend.nil|fail))))
 refine CA.loop (fun i : Nat => ⟨[(0, sv s), (1, .val (.int .i64 a)), (5, .sl 1 L strC), (6, .val (.int .i64 i))], []⟩) (fun i => i ≤ L.length ∧ ∀ j q, j < i → L[j]? = some q → ¬ symOK s a q) (fun i => L.length - i) 0 ⟨by repeat first|trivial|refine ⟨rfl,?_⟩,by repeat first|exact .nil|refine .cons (by repeat constructor) ?_⟩ ⟨Nat.zero_le _, fun j q h => by omega⟩ ?_
 rintro i ⟨hi, hj⟩
 by_cases hin : i < L.length
 ·obtain ⟨q, hq⟩ := get_of hin
  have hqs := hsz q (List.mem_of_getElem? hq)
  repeat' (first|refine Sp.h ?_|refine Lk.r rfl ?_|refine Rf.mk rfl ?_|(apply Bd.t;(focus first|assumption|omega|rfl))|(apply Bd.f;(focus first|assumption|omega|exact Bool.false_ne_true))|(refine Bd.mk ?_ ?_ <;> intro _)|refine OpK.r rfl ?_|(refine Im.mk ?_;intro _)|(apply Ix.q;(focus exact rfl);(focus assumption))|(apply Nm.r;focus repeat constructor)|(apply Jx.r;(focus exact rfl);(focus first|omega|(simp;done)|(simp;omega)))|(apply CA.draw;(focus rfl);(focus kernel_rfl);(focus kernel_rfl);(focus repeat' constructor);(focus rfl))|(apply Ov.n;(focus first|omega|(simp <;> omega)))|fail)
  all_goals first
   | (rename_i h1 h2;exact Fin.p rfl (by rw [symF, find_at hq (decide_eq_true (show symOK s a q from ⟨by omega, h2⟩)) fun j y h8 h9 => decide_eq_false (hj j y h8 h9)];rfl))
   | skip
  all_goals refine PA.lp (i + 1) ⟨by repeat first|trivial|refine ⟨rfl,?_⟩,by repeat first|exact .nil|refine .cons (by repeat constructor) ?_⟩ ⟨⟨hin, fun j y h8 h9 => ?_⟩, by omega⟩
  all_goals
   by_cases hij : j = i
   ·subst hij;rw [hq] at h9;cases h9
    exact fun h7 => by have := h7.1;have := h7.2;first|contradiction|omega
   ·exact hj j y (by omega) h9
 ·repeat' (first|refine Sp.h ?_|refine Lk.r rfl ?_|refine Rf.mk rfl ?_|(apply Bd.f;(focus first|assumption|omega|exact Bool.false_ne_true))|(refine Im.mk ?_;intro _)|(apply Nm.r;focus repeat constructor)|fail)
  have hn : L.find? (fun q => decide (symOK s a q)) = none := List.find?_eq_none.2 fun q hq => by
   obtain ⟨j, hq⟩ := List.getElem?_of_mem hq
   have := hj j q (by have := (List.getElem?_eq_some_iff.1 hq).1;omega) hq
   simpa using this
  exact Fin.p rfl (by rw [symF, hn];rfl)
/-! ### Tokens -/
theorem token_c {s : ByteArray} {a : Nat} (hs : s.size ≤ 1000000000) (ha : a < s.size) (hw : ¬ isWhite (byteAt s a)) (h35 : byteAt s a ≠ 35) :
  CallA Tryz.prog 299 [sv s, .val (.int .i64 a)] [] fun r own => ∃ (k : Int) (b : Nat), r = .tup [.val (.int .i64 k), .val (.int .i64 b)] ∧ own = [] ∧ a < b ∧ b ≤ s.size := by
 refine CallA.of pg ord299 Tryz.func299 rfl Tryz.ntmps299 Tryz.results299 rfl fun h0 G0 O0 => ?_
 by_cases hl : isLetter (byteAt s a)
 ·repeat' (first|refine Sp.h ?_|refine Lk.r rfl ?_|refine Rf.mk rfl ?_|(apply Bd.t;(focus first|assumption|omega|rfl))|(apply Sx.r;(focus exact rfl);(focus first|omega|(simp;omega)))|(apply Cl.p (letter_p _);(focus repeat' (first|exact Lend.nil|apply Lend.keep|fail))))
  refine CA.loop (fun b : Nat => ⟨[(0, sv s), (1, .val (.int .i64 a)), (6, .val (.int .i64 b))], []⟩) (fun b => a ≤ b ∧ b ≤ s.size) (fun b => s.size - b) a ⟨by repeat first|trivial|refine ⟨rfl,?_⟩,by repeat first|exact .nil|refine .cons (by repeat constructor) ?_⟩ ⟨Nat.le_refl _, by omega⟩ ?_
  rintro b ⟨hb1, hb2⟩
  by_cases hba : b = a
  ·subst hba
   repeat' (first|refine Sp.h ?_|refine Lk.r rfl ?_|refine Rf.mk rfl ?_|(apply Bd.t;(focus first|assumption|omega|rfl))|(apply Sx.r;(focus exact rfl);(focus first|omega|(simp;omega)))|(apply Ov.n;(focus first|omega|(simp <;> omega)))|(apply Cl.p (letter_p _);(focus repeat' (first|exact Lend.nil|apply Lend.keep|fail))))
   exact PA.lp (b + 1) ⟨by repeat first|trivial|refine ⟨rfl,?_⟩,by repeat first|exact .nil|refine .cons (by repeat constructor) ?_⟩ ⟨⟨by omega, by omega⟩, by omega⟩
  ·repeat' (first|refine Sp.h ?_|refine Lk.r rfl ?_|refine Rf.mk rfl ?_|(apply Bd.t;(focus first|assumption|omega|rfl))|(apply Bd.f;(focus first|assumption|omega|exact Bool.false_ne_true))|(refine Bd.mk ?_ ?_ <;> intro _)|refine OpK.r rfl ?_|(apply Jx.r;(focus exact rfl);(focus first|omega|(simp;done)|(simp;omega)))|(apply CA.draw;(focus rfl);(focus kernel_rfl);(focus kernel_rfl);(focus repeat' constructor);(focus rfl))|(apply Sx.r;(focus exact rfl);(focus first|omega|(simp;omega)))|(apply Ov.n;(focus first|omega|(simp <;> omega)))|(apply Cl.p (letter_p _);(focus repeat' (first|exact Lend.nil|apply Lend.keep|fail)))|(apply Cl.p (digit_p _);(focus repeat' (first|exact Lend.nil|apply Lend.keep|fail))))
   all_goals try exact PA.lp (b + 1) ⟨by repeat first|trivial|refine ⟨rfl,?_⟩,by repeat first|exact .nil|refine .cons (by repeat constructor) ?_⟩ ⟨⟨by omega, by omega⟩, by omega⟩
   all_goals repeat' (first|refine Sp.h ?_|refine Lk.r rfl ?_|refine Rf.mk rfl ?_|(refine Bd.mk ?_ ?_ <;> intro _)|refine OpK.r rfl ?_|(apply Nm.r;focus repeat constructor)|(apply Cl.p (keywords_p);(focus repeat' (first|exact Lend.nil|apply Lend.keep|fail)))|(apply Cl.p (has_p _ _);(focus repeat' (first|exact Lend.nil|apply Lend.keep|fail))))
   all_goals exact ⟨_, _, .tup (.same (.same (.nil (by (repeat first|exact .nil|refine .cons (by repeat constructor) ?_))))), _, b, rfl, rfl, by omega, hb2⟩
 ·by_cases hd : isDigit (byteAt s a)
  ·repeat' (first|refine Sp.h ?_|refine Lk.r rfl ?_|refine Rf.mk rfl ?_|(apply Bd.t;(focus first|assumption|omega|rfl))|(apply Bd.f;(focus first|assumption|omega|exact Bool.false_ne_true))|(apply Sx.r;(focus exact rfl);(focus first|omega|(simp;omega)))|(apply Cl.p (letter_p _);(focus repeat' (first|exact Lend.nil|apply Lend.keep|fail)))|(apply Cl.p (digit_p _);(focus repeat' (first|exact Lend.nil|apply Lend.keep|fail))))
   refine CA.loop (fun b : Nat => ⟨[(0, sv s), (1, .val (.int .i64 a)), (6, .val (.int .i64 b))], []⟩) (fun b => a ≤ b ∧ b ≤ s.size) (fun b => s.size - b) a ⟨by repeat first|trivial|refine ⟨rfl,?_⟩,by repeat first|exact .nil|refine .cons (by repeat constructor) ?_⟩ ⟨Nat.le_refl _, by omega⟩ ?_
   rintro b ⟨hb1, hb2⟩
   by_cases hba : b = a
   ·subst hba
    repeat' (first|refine Sp.h ?_|refine Lk.r rfl ?_|refine Rf.mk rfl ?_|(apply Bd.t;(focus first|assumption|omega|rfl))|(apply Sx.r;(focus exact rfl);(focus first|omega|(simp;omega)))|(apply Ov.n;(focus first|omega|(simp <;> omega)))|(apply Cl.p (digit_p _);(focus repeat' (first|exact Lend.nil|apply Lend.keep|fail))))
    exact PA.lp (b + 1) ⟨by repeat first|trivial|refine ⟨rfl,?_⟩,by repeat first|exact .nil|refine .cons (by repeat constructor) ?_⟩ ⟨⟨by omega, by omega⟩, by omega⟩
   ·repeat' (first|refine Sp.h ?_|refine Lk.r rfl ?_|refine Rf.mk rfl ?_|(apply Bd.t;(focus first|assumption|omega|rfl))|(apply Bd.f;(focus first|assumption|omega|exact Bool.false_ne_true))|(refine Bd.mk ?_ ?_ <;> intro _)|(apply Nm.r;focus repeat constructor)|(apply Sx.r;(focus exact rfl);(focus first|omega|(simp;omega)))|(apply Ov.n;(focus first|omega|(simp <;> omega)))|(apply Cl.p (digit_p _);(focus repeat' (first|exact Lend.nil|apply Lend.keep|fail))))
    all_goals first
     | exact PA.lp (b + 1) ⟨by repeat first|trivial|refine ⟨rfl,?_⟩,by repeat first|exact .nil|refine .cons (by repeat constructor) ?_⟩ ⟨⟨by omega, by omega⟩, by omega⟩
     | exact ⟨_, _, .tup (.same (.same (.nil (by (repeat first|exact .nil|refine .cons (by repeat constructor) ?_))))), _, b, rfl, rfl, by omega, hb2⟩
  ·have hsy := symF_le (s := s) (a := a) (by omega)
   have hsp := symbol_p hs (Nat.le_of_lt ha)
   repeat' (first|refine Sp.h ?_|refine Lk.r rfl ?_|refine Rf.mk rfl ?_|(apply Bd.f;(focus first|assumption|omega|exact Bool.false_ne_true))|(apply Sx.r;(focus exact rfl);(focus first|omega|(simp;omega)))|(apply Cl.p (letter_p _);(focus repeat' (first|exact Lend.nil|apply Lend.keep|fail)))|(apply Cl.p (digit_p _);(focus repeat' (first|exact Lend.nil|apply Lend.keep|fail))))
   by_cases hp : 0 < symF symL s a
   ·repeat' (first|refine Sp.h ?_|refine Lk.r rfl ?_|refine Rf.mk rfl ?_|(apply Bd.t;(focus first|assumption|omega|rfl))|(apply Nm.r;focus repeat constructor)|(apply Ov.n;(focus first|omega|(simp <;> omega)))|(apply Cl.p (hsp);(focus repeat' (first|exact Lend.nil|apply Lend.keep|fail))))
    exact ⟨_, _, .tup (.same (.same (.nil (by (repeat first|exact .nil|refine .cons (by repeat constructor) ?_))))), _, a + symF symL s a, rfl, rfl, by omega, hsy⟩
   ·repeat' (first|refine Sp.h ?_|refine Lk.r rfl ?_|refine Rf.mk rfl ?_|(apply Bd.f;(focus first|assumption|omega|exact Bool.false_ne_true))|(apply Cl.p (hsp);(focus repeat' (first|exact Lend.nil|apply Lend.keep|fail))))
    refine CA.loop (fun b : Nat => ⟨[(0, sv s), (1, .val (.int .i64 a)), (6, .val (.int .i64 b))], []⟩) (fun b => a ≤ b ∧ b ≤ s.size) (fun b => s.size - b) a ⟨by repeat first|trivial|refine ⟨rfl,?_⟩,by repeat first|exact .nil|refine .cons (by repeat constructor) ?_⟩ ⟨Nat.le_refl _, by omega⟩ ?_
    rintro b ⟨hb1, hb2⟩
    by_cases hba : b = a
    ·subst hba
     repeat' (first|refine Sp.h ?_|refine Lk.r rfl ?_|refine Rf.mk rfl ?_|(apply Bd.t;(focus first|assumption|omega|rfl))|(apply Bd.f;(focus first|assumption|omega|exact Bool.false_ne_true))|(apply Sx.r;(focus exact rfl);(focus first|omega|(simp;omega)))|(apply Cl.p (white_p _);(focus repeat' (first|exact Lend.nil|apply Lend.keep|fail)))|(apply Cl.p (letter_p _);(focus repeat' (first|exact Lend.nil|apply Lend.keep|fail))))
     repeat' (first|refine Sp.h ?_|refine Lk.r rfl ?_|refine Rf.mk rfl ?_|(apply Bd.t;(focus first|assumption|omega|rfl))|(apply Bd.f;(focus first|assumption|omega|exact Bool.false_ne_true))|(apply Ov.n;(focus first|omega|(simp <;> omega)))|(apply Cl.p (digit_p _);(focus repeat' (first|exact Lend.nil|apply Lend.keep|fail)))|(apply Cl.p (hsp);(focus repeat' (first|exact Lend.nil|apply Lend.keep|fail))))
     exact PA.lp (b + 1) ⟨by repeat first|trivial|refine ⟨rfl,?_⟩,by repeat first|exact .nil|refine .cons (by repeat constructor) ?_⟩ ⟨⟨by omega, by omega⟩, by omega⟩
    ·have hsb := symbol_p hs hb2
     repeat' (first|refine Sp.h ?_|refine Lk.r rfl ?_|refine Rf.mk rfl ?_|(apply Bd.t;(focus first|assumption|omega|rfl))|(apply Bd.f;(focus first|assumption|omega|exact Bool.false_ne_true))|(refine Bd.mk ?_ ?_ <;> intro _)|(apply Nm.r;focus repeat constructor)|(apply Sx.r;(focus exact rfl);(focus first|omega|(simp;omega)))|(apply Cl.p (white_p _);(focus repeat' (first|exact Lend.nil|apply Lend.keep|fail)))|(apply Cl.p (letter_p _);(focus repeat' (first|exact Lend.nil|apply Lend.keep|fail))))
     all_goals repeat' (first|refine Sp.h ?_|refine Lk.r rfl ?_|refine Rf.mk rfl ?_|(apply Bd.t;(focus first|assumption|omega|rfl))|(apply Bd.f;(focus first|assumption|omega|exact Bool.false_ne_true))|(refine Bd.mk ?_ ?_ <;> intro _)|(apply Nm.r;focus repeat constructor)|(apply Ov.n;(focus first|omega|(simp <;> omega)))|(apply Cl.p (digit_p _);(focus repeat' (first|exact Lend.nil|apply Lend.keep|fail)))|(apply Cl.p (hsb);(focus repeat' (first|exact Lend.nil|apply Lend.keep|fail))))
     all_goals first
      | exact PA.lp (b + 1) ⟨by repeat first|trivial|refine ⟨rfl,?_⟩,by repeat first|exact .nil|refine .cons (by repeat constructor) ?_⟩ ⟨⟨by omega, by omega⟩, by omega⟩
      | exact ⟨_, _, .tup (.same (.same (.nil (by (repeat first|exact .nil|refine .cons (by repeat constructor) ?_))))), _, b, rfl, rfl, by omega, hb2⟩
/-! ### Scanning -/
abbrev TokT := Int × Int × Int × Int
def tokC (x : TokT) : List AV := [.val (.int .i64 x.1), .val (.int .i64 x.2.1), .val (.int .i64 x.2.2.1), .val (.int .i64 x.2.2.2)]
instance {a b c d : Int} : Inv tokC [.val (.int .i64 a), .val (.int .i64 b), .val (.int .i64 c), .val (.int .i64 d)] (a, b, c, d) := ⟨rfl⟩
theorem scan_c (s : ByteArray) : CallA Tryz.prog 289 [sv s] [] fun r own => ∃ (l : List TokT) (e : Int), r = .tup [.sl 4 l tokC, .val (.int .i64 e)] ∧ own = [] := by
 refine CallA.of pg ord289 Tryz.func289 rfl Tryz.ntmps289 Tryz.results289 rfl fun h0 G0 O0 => ?_
 repeat' (first|refine Sp.h ?_|refine Lk.r rfl ?_|refine Rf.mk rfl ?_|(refine Bd.mk ?_ ?_ <;> intro _)|(refine All.mk ?_;intro _)|(apply Fk.r;(focus (repeat (first|exact FillA.nil|(apply FillA.agg;(focus rfl);(focus rfl);(focus (repeat (first|exact SetAs.z|(apply SetAs.c;(focus (repeat first|assumption|constructor)))))))|(apply FillA.one;(focus rfl);(focus infer_instance);(focus (repeat first|assumption|constructor)))))))|(apply Nm.r;focus repeat constructor)|refine Rf.mk ⟨rfl, rfl, rfl⟩ ?_|fail)
 ·exact ⟨_, _, .tup (.nilr (.same (.nil (by (repeat first|exact .nil|refine .cons (by repeat constructor) ?_))))), [], _, rfl, rfl⟩
 rename_i hsz v
 have hs : s.size ≤ 1000000000 := by omega
 apply CA.retype (m := ([] : List TokT)) (g := tokC)
 focus (repeat constructor)
 focus rfl
 refine CA.loop (fun x : Nat × Value × List TokT => ⟨[(0, sv s), (5, .val (.int .i64 x.1)), (4, .ow x.2.1)], [arrR x.2.1 347 4 x.2.2 tokC]⟩) (fun x => x.1 ≤ s.size ∧ x.2.2.length ≤ x.1) (fun x => s.size - x.1) (0, v, []) ⟨by repeat first|trivial|refine ⟨rfl,?_⟩,by repeat first|exact .nil|refine .cons (by repeat constructor) ?_⟩ ⟨Nat.zero_le _, Nat.le_refl _⟩ ?_
 rintro ⟨a, v, l⟩ ⟨ha, hl⟩
 simp only at ha hl
 obtain ⟨j, hj⟩ := Skip.ex s _ a rfl
 obtain ⟨hj1, hj2, hj3⟩ := hj.le ha
 have hsk := skip_p hs ha hj
 by_cases hjl : j < s.size
 ·obtain ⟨hj4, hj5⟩ := hj3 hjl
  have htk := token_c hs hjl hj4 hj5
  repeat' (first|refine Sp.h ?_|refine Lk.r rfl ?_|refine Rf.mk rfl ?_|(apply Bd.t;(focus first|assumption|omega|rfl))|(apply Cl.p (hsk);(focus repeat' (first|exact Lend.nil|apply Lend.keep|fail))))
  (apply Cl.use (htk);(focus repeat' (first|exact Lend.nil|apply Lend.keep|fail));(focus (repeat (first|exact Takes.nil|(apply Takes.cons;(focus repeat constructor)))));(focus rfl))
  rintro _ _ ⟨k, b, rfl, rfl, hb1, hb2⟩
  repeat' (first|refine Sp.h ?_|refine Lk.r rfl ?_|refine Rf.mk rfl ?_|(apply Om.mk;(focus first|omega|(simp <;> omega)))|(refine All.mk ?_;intro _)|(apply TkA.r;(focus repeat constructor))|refine Ce.r ?_|(apply Fk.r;(focus (repeat (first|exact FillA.nil|(apply FillA.agg;(focus rfl);(focus rfl);(focus (repeat (first|exact SetAs.z|(apply SetAs.c;(focus (repeat first|assumption|constructor)))))))|(apply FillA.one;(focus rfl);(focus infer_instance);(focus (repeat first|assumption|constructor)))))))|refine Rf.mk ⟨rfl, rfl⟩ ?_|refine Rf.mk ⟨rfl, rfl, rfl⟩ ?_|(apply Mp.lit;(focus repeat (first|exact MpL.nil|(apply MpL.cons;(focus rfl))|(apply MpL.inv;(focus repeat constructor);(focus infer_instance)))))|fail)
  exact PA.lp (b, _, l ++ [(k, (a : Int), (j : Int), (b : Int))]) ⟨by repeat first|trivial|refine ⟨rfl,?_⟩,by repeat first|exact .nil|refine .cons (by repeat constructor) ?_⟩ ⟨⟨hb2, by simp only [List.length_append, List.length_singleton];omega⟩, by simp only;omega⟩
 ·repeat' (first|refine Sp.h ?_|refine Lk.r rfl ?_|refine Rf.mk rfl ?_|(apply Bd.f;(focus first|assumption|omega|exact Bool.false_ne_true))|(apply Om.mk;(focus first|omega|(simp <;> omega)))|(refine All.mk ?_;intro _)|(apply TkA.r;(focus repeat constructor))|refine Ce.r ?_|(apply Fk.r;(focus (repeat (first|exact FillA.nil|(apply FillA.agg;(focus rfl);(focus rfl);(focus (repeat (first|exact SetAs.z|(apply SetAs.c;(focus (repeat first|assumption|constructor)))))))|(apply FillA.one;(focus rfl);(focus infer_instance);(focus (repeat first|assumption|constructor)))))))|(apply Nm.r;focus repeat constructor)|refine Rf.mk ⟨rfl, rfl⟩ ?_|refine Rf.mk ⟨rfl, rfl, rfl⟩ ?_|(apply Mp.lit;(focus repeat (first|exact MpL.nil|(apply MpL.cons;(focus rfl))|(apply MpL.inv;(focus repeat constructor);(focus infer_instance)))))|(apply Cl.p (hsk);(focus repeat' (first|exact Lend.nil|apply Lend.keep|fail))))
  exact ⟨_, _, .tup (.fz (by repeat constructor) (by simp only [List.length_append, List.length_singleton];omega) (.same (.nil (by (repeat first|exact .nil|refine .cons (by repeat constructor) ?_))))), _, _, rfl, rfl⟩
theorem kind_c (s : ByteArray) : CallA Tryz.prog 270 [sv s] [] fun r own => ∃ k : Int, r = .val (.int .i64 k) ∧ own = [] := by
 refine CallA.of pg ord270 Tryz.func270 rfl Tryz.ntmps270 Tryz.results270 rfl fun h0 G0 O0 => ?_
 repeat' (first|refine Sp.h ?_|refine Lk.r rfl ?_|refine Rf.mk rfl ?_|fail)
 (apply Cl.use (scan_c s);(focus repeat' (first|exact Lend.nil|apply Lend.keep|fail));(focus (repeat (first|exact Takes.nil|(apply Takes.cons;(focus repeat constructor)))));(focus rfl))
 rintro _ _ ⟨l, e, rfl, rfl⟩
 by_cases hl : l.length = 2
 ·obtain ⟨x, hx⟩ := get_of (l := l) (i := 0) (by omega)
  repeat' (first|refine Sp.h ?_|refine Lk.r rfl ?_|refine Rf.mk rfl ?_|(apply Bd.t;(focus first|assumption|omega|rfl))|(apply Bd.f;(focus first|assumption|omega|exact Bool.false_ne_true))|(refine Bd.mk ?_ ?_ <;> intro _)|(refine Im.mk ?_;intro _)|(apply Ix.q;(focus exact rfl);(focus assumption))|(apply Nm.r;focus repeat constructor)|fail)
  all_goals exact ⟨_, _, .one (.same (.nil (by (repeat first|exact .nil|refine .cons (by repeat constructor) ?_)))), _, rfl, rfl⟩
 ·repeat' (first|refine Sp.h ?_|refine Lk.r rfl ?_|refine Rf.mk rfl ?_|(apply Bd.t;(focus first|assumption|omega|rfl))|(apply Bd.f;(focus first|assumption|omega|exact Bool.false_ne_true))|(refine Bd.mk ?_ ?_ <;> intro _)|(refine Im.mk ?_;intro _)|(apply Nm.r;focus repeat constructor)|fail)
  all_goals exact ⟨_, _, .one (.same (.nil (by (repeat first|exact .nil|refine .cons (by repeat constructor) ?_)))), _, rfl, rfl⟩
abbrev CallB (P : Program) (f : FuncId) (args : List AV) : Prop := CallA P f args [] fun r own => ∃ b, r = .val (.bool b) ∧ own = []
theorem name_c (s : ByteArray) : CallB Tryz.prog 231 [sv s] := by
 refine CallA.of pg ord231 Tryz.func231 rfl Tryz.ntmps231 Tryz.results231 rfl fun h0 G0 O0 => ?_
 repeat' (first|refine Sp.h ?_|refine Lk.r rfl ?_|refine Rf.mk rfl ?_|fail)
 (apply Cl.use (kind_c s);(focus repeat' (first|exact Lend.nil|apply Lend.keep|fail));(focus (repeat (first|exact Takes.nil|(apply Takes.cons;(focus repeat constructor)))));(focus rfl))
 rintro _ _ ⟨k, rfl, rfl⟩
 repeat' (first|refine Sp.h ?_|refine Lk.r rfl ?_|refine Rf.mk rfl ?_|(apply Bd.t;(focus first|assumption|omega|rfl))|(apply Bd.f;(focus first|assumption|omega|exact Bool.false_ne_true))|(refine Bd.mk ?_ ?_ <;> intro _)|(apply Nm.r;focus repeat constructor)|fail)
 all_goals exact ⟨_, _, .one (.same (.nil (by (repeat first|exact .nil|refine .cons (by repeat constructor) ?_)))), _, rfl, rfl⟩
end Go.Proofs.YtmllihbhphnolaaGreat
namespace Go.Proofs.YtmllihbhphnolaaGreat
open Go Go.CF
set_option maxRecDepth 20000
structure TblS where
 name : ByteArray
 kind : Int
 cols : List Int
 lo : Int
 hi : Int
 first : Int
abbrev it (x : Int) : AV := .val (.int .i64 x)
def tblC (t : TblS) : List AV := [sv t.name, it t.kind, ints t.cols, it t.lo, it t.hi, it t.first]
abbrev tbls (l : List TblS) : AV := .sl 6 l tblC
def Sound (sizes : List Int) : Prop := ∀ x ∈ sizes, 1 ≤ x ∧ x ≤ 6
noncomputable instance (sizes : List Int) : Decidable (Sound sizes) := Classical.propDecidable _
theorem sound_p (c : List Int) : CallP Tryz.prog 229 [ints c] (.val (.bool (decide (Sound c)))) := by
 refine CallA.of pg ord229 Tryz.func229 rfl Tryz.ntmps229 Tryz.results229 rfl fun h0 G0 O0 => ?_
 repeat' (first|refine Sp.h ?_|refine Lk.r rfl ?_|refine Rf.mk rfl ?_|fail)
 refine CA.loop (fun i : Nat => ⟨[(0, ints c), (3, .val (.int .i64 i))], []⟩) (fun i => i ≤ c.length ∧ ∀ x ∈ c.take i, 1 ≤ x ∧ x ≤ 6) (fun i => c.length - i) 0 ⟨by repeat first|trivial|refine ⟨rfl,?_⟩,by repeat first|exact .nil|refine .cons (by repeat constructor) ?_⟩ ⟨Nat.zero_le _, by simp⟩ ?_
 rintro i ⟨hi, ha⟩
 by_cases hin : i < c.length
 ·obtain ⟨x, hx⟩ := get_of hin
  repeat' (first|refine Sp.h ?_|refine Lk.r rfl ?_|refine Rf.mk rfl ?_|(apply Bd.t;(focus first|assumption|omega|rfl))|(apply Bd.f;(focus first|assumption|omega|exact Bool.false_ne_true))|(refine Bd.mk ?_ ?_ <;> intro _)|(refine Im.mk ?_;intro _)|(apply Ix.q;(focus exact rfl);(focus assumption))|(apply Nm.r;focus repeat constructor)|(apply Ov.n;(focus first|omega|(simp <;> omega)))|fail)
  all_goals first
   | exact PA.lp (i + 1) ⟨by repeat first|trivial|refine ⟨rfl,?_⟩,by repeat first|exact .nil|refine .cons (by repeat constructor) ?_⟩ ⟨⟨hin, all_succ hx ha ⟨by omega, by omega⟩⟩, by omega⟩
   | exact Fin.p rfl (vb (decide_eq_false (fun h => by have h1 := h x (List.mem_of_getElem? hx);omega)).symm)
 ·have : i = c.length := by omega
  subst this
  rw [List.take_length] at ha
  repeat' (first|refine Sp.h ?_|refine Lk.r rfl ?_|refine Rf.mk rfl ?_|(apply Bd.f;(focus first|assumption|omega|exact Bool.false_ne_true))|(refine Im.mk ?_;intro _)|(apply Nm.r;focus repeat constructor)|fail)
  exact Fin.p rfl (vb (decide_eq_true (show Sound c from ha)).symm)
def ColOK (sizes cols : List Int) : Prop := cols.length ≤ 3 ∧ Sound sizes ∧ ∀ x ∈ cols, 0 ≤ x ∧ x < sizes.length
noncomputable instance (sizes cols : List Int) : Decidable (ColOK sizes cols) := Classical.propDecidable _
def prodF (sizes cols : List Int) : Int := cols.foldl (fun n c => n * (sizes[c.toNat]?.getD 1)) 1
noncomputable def numF (sizes cols : List Int) : Int := if ColOK sizes cols then prodF sizes cols else 0
theorem prod_succ {sizes cols : List Int} {i : Nat} {x y : Int} (hx : cols[i]? = some x) (hy : sizes[x.toNat]? = some y) : prodF sizes (cols.take (i + 1)) = prodF sizes (cols.take i) * y := by
 unfold prodF;rw [List.take_add_one, hx, List.foldl_append];simp [hy]
theorem prod_le {sizes : List Int} (hs : Sound sizes) : ∀ cols : List Int, 1 ≤ prodF sizes cols ∧ prodF sizes cols ≤ 6 ^ cols.length := by
 have key : ∀ (cols : List Int) (n : Int) (k : Nat), 1 ≤ n → n ≤ 6 ^ k → 1 ≤ cols.foldl (fun n c => n * (sizes[c.toNat]?.getD 1)) n ∧ cols.foldl (fun n c => n * (sizes[c.toNat]?.getD 1)) n ≤ 6 ^ (k + cols.length) := by
  intro cols
  induction cols with
  | nil => exact fun n k h1 h2 => ⟨h1, h2⟩
  | cons c cols ih =>
   intro n k h1 h2
   have hy : 1 ≤ sizes[c.toNat]?.getD 1 ∧ sizes[c.toNat]?.getD 1 ≤ 6 := by
    cases h : sizes[c.toNat]? with
    | none => simp
    | some y => exact hs y (List.mem_of_getElem? h)
   have := ih (n * (sizes[c.toNat]?.getD 1)) (k + 1) (by have := Int.mul_le_mul h1 hy.1 (by omega) (by omega);omega) (by rw [Int.pow_succ];exact Int.mul_le_mul h2 hy.2 (by omega) (Int.le_trans (by omega) h2))
   rw [List.length_cons, show k + (cols.length + 1) = k + 1 + cols.length by omega]
   exact this
 intro cols
 have := key cols 1 0 (by omega) (by simp)
 rwa [Nat.zero_add] at this
theorem number_p (sizes cols : List Int) : CallP Tryz.prog 230 [ints sizes, ints cols] (it (numF sizes cols)) := by
 refine CallA.of pg ord230 Tryz.func230 rfl Tryz.ntmps230 Tryz.results230 rfl fun h0 G0 O0 => ?_
 by_cases h1 : cols.length ≤ 3 ∧ Sound sizes
 ·obtain ⟨hl, hs⟩ := h1
  repeat' (first|refine Sp.h ?_|refine Lk.r rfl ?_|refine Rf.mk rfl ?_|(apply Bd.t;(focus first|assumption|omega|rfl))|(apply Bd.f;(focus first|assumption|omega|exact Bool.false_ne_true))|(refine Im.mk ?_;intro _)|(apply Cl.p (sound_p _);(focus repeat' (first|exact Lend.nil|apply Lend.keep|fail))))
  refine CA.loop (fun i : Nat => ⟨[(0, ints sizes), (1, ints cols), (5, it (prodF sizes (cols.take i))), (6, it i)], []⟩) (fun i => i ≤ cols.length ∧ ∀ x ∈ cols.take i, 0 ≤ x ∧ x < sizes.length) (fun i => cols.length - i) 0 ⟨by repeat first|trivial|refine ⟨rfl,?_⟩,by repeat first|exact .nil|refine .cons (by repeat constructor) ?_⟩ ⟨Nat.zero_le _, by simp⟩ ?_
  rintro i ⟨hi, ha⟩
  by_cases hin : i < cols.length
  ·obtain ⟨x, hx⟩ := get_of hin
   by_cases hb : 0 ≤ x ∧ x < sizes.length
   ·obtain ⟨y, hy⟩ := get_of (l := sizes) (i := x.toNat) (by omega)
    have hb1 := hb.1
    have hys := hs y (List.mem_of_getElem? hy)
    have hp := prod_le hs (cols.take i)
    have hp2 := prod_succ hx hy
    have hp3 := prod_le hs (cols.take (i + 1))
    have h216 : ∀ n : Nat, n ≤ 3 → (6 : Int) ^ n ≤ 216 := fun n hn => by match n, hn with | 0, _ => decide | 1, _ => decide | 2, _ => decide | 3, _ => decide
    have hp4 : prodF sizes (cols.take i) * y ≤ 216 := by rw [← hp2];exact Int.le_trans hp3.2 (h216 _ (by rw [List.length_take];omega))
    have hp5 : 1 ≤ prodF sizes (cols.take i) * y := by rw [← hp2];exact hp3.1
    repeat' (first|refine Sp.h ?_|refine Lk.r rfl ?_|refine Rf.mk rfl ?_|(apply Bd.t;(focus first|assumption|omega|rfl))|(apply Bd.f;(focus first|assumption|omega|exact Bool.false_ne_true))|(apply Om.mk;(focus first|omega|(simp <;> omega)))|(refine Im.mk ?_;intro _)|(apply Ix.q;(focus exact rfl);(focus assumption))|(apply Ix.r;(focus assumption);(focus omega))|(apply Ov.n;(focus first|omega|(simp <;> omega)))|fail)
    rw [← hp2]
    exact PA.lp (i + 1) ⟨by repeat first|trivial|refine ⟨rfl,?_⟩,by repeat first|exact .nil|refine .cons (by repeat constructor) ?_⟩ ⟨⟨hin, all_succ hx ha hb⟩, by omega⟩
   ·repeat' (first|refine Sp.h ?_|refine Lk.r rfl ?_|refine Rf.mk rfl ?_|(apply Bd.t;(focus first|assumption|omega|rfl))|(apply Bd.f;(focus first|assumption|omega|exact Bool.false_ne_true))|(refine Bd.mk ?_ ?_ <;> intro _)|(refine Im.mk ?_;intro _)|(apply Ix.q;(focus exact rfl);(focus assumption))|(apply Nm.r;focus repeat constructor)|fail)
    all_goals exact Fin.p rfl (by rw [numF, if_neg (fun h => hb (h.2.2 x (List.mem_of_getElem? hx)))])
  ·have : i = cols.length := by omega
   subst this
   rw [List.take_length] at ha
   simp only [List.take_length]
   repeat' (first|refine Sp.h ?_|refine Lk.r rfl ?_|refine Rf.mk rfl ?_|(apply Bd.f;(focus first|assumption|omega|exact Bool.false_ne_true))|(refine Im.mk ?_;intro _)|(apply Nm.r;focus repeat constructor)|fail)
   exact Fin.p rfl (by rw [numF, if_pos ⟨hl, hs, ha⟩])
 ·repeat' (first|refine Sp.h ?_|refine Lk.r rfl ?_|refine Rf.mk rfl ?_|(apply Bd.t;(focus first|assumption|omega|rfl))|(apply Bd.f;(focus first|assumption|omega|exact Bool.false_ne_true))|(refine Bd.mk ?_ ?_ <;> intro _)|(refine Im.mk ?_;intro _)|(apply Nm.r;focus repeat constructor)|(apply Cl.p (sound_p _);(focus repeat' (first|exact Lend.nil|apply Lend.keep|fail))))
  all_goals first
   | exact Fin.p rfl (by rw [numF, if_neg (fun h => h1 ⟨h.1, h.2.1⟩)])
   | exact (h1 ⟨by omega, by assumption⟩).elim
end Go.Proofs.YtmllihbhphnolaaGreat
namespace Go.Proofs.YtmllihbhphnolaaGreat
open Go Go.CF
set_option maxRecDepth 20000
def TabOK (sizes : List Int) (t : TblS) : Prop := ColOK sizes t.cols ∧ 0 ≤ t.kind ∧ t.kind ≤ 5 ∧ -9999 ≤ t.lo ∧ t.lo ≤ t.hi ∧ t.hi ≤ 9999
def LayOK (sizes : List Int) (l : List TblS) : Prop := sizes.length ≤ 4 ∧ Sound sizes ∧ l.length ≤ 12 ∧ ∀ t ∈ l, TabOK sizes t
def isStrict (k : Int) : Prop := k = 0 ∨ k = 1
noncomputable instance (k : Int) : Decidable (isStrict k) := Classical.propDecidable _
theorem strict9_p (k : Int) : CallP Tryz.prog 232 [it k] (.val (.bool (decide (isStrict k)))) := by
 refine CallA.of pg ord232 Tryz.func232 rfl Tryz.ntmps232 Tryz.results232 rfl fun h0 G0 O0 => ?_
 repeat' (first|refine Sp.h ?_|refine Lk.r rfl ?_|refine Rf.mk rfl ?_|(apply Bd.t;(focus first|assumption|omega|rfl))|(apply Bd.f;(focus first|assumption|omega|exact Bool.false_ne_true))|(refine Bd.mk ?_ ?_ <;> intro _)|(apply Nm.r;focus repeat constructor)|fail)
 all_goals refine Fin.p rfl (vb ?_)
 all_goals first
  | exact decide_eq_decide.2 (by unfold isStrict;omega)
  | exact (decide_eq_true (by unfold isStrict;omega)).symm
theorem num_le (sizes cols : List Int) : 0 ≤ numF sizes cols ∧ numF sizes cols ≤ 216 := by
 unfold numF
 split
 ·rename_i h
  have hp := prod_le h.2.1 cols
  have h216 : ∀ n : Nat, n ≤ 3 → (6 : Int) ^ n ≤ 216 := fun n hn => by match n, hn with | 0, _ => decide | 1, _ => decide | 2, _ => decide | 3, _ => decide
  have := h216 _ h.1
  omega
 ·omega
theorem num_ne {sizes cols : List Int} (h : numF sizes cols ≠ 0) : ColOK sizes cols := by
 unfold numF at h
 split at h
 ·assumption
 ·exact absurd rfl h
abbrev CallF (P : Program) (f : FuncId) (args : List AV) (Q : Prop) : Prop := CallA P f args [] fun r own => ∃ b, r = .val (.bool b) ∧ own = [] ∧ (b = true → Q)
set_option maxHeartbeats 4000000 in
theorem valid9_c (sizes : List Int) (l : List TblS) : CallF Tryz.prog 157 [ints sizes, tbls l] (LayOK sizes l) := by
 refine CallA.of pg ord157 Tryz.func157 rfl Tryz.ntmps157 Tryz.results157 rfl fun h0 G0 O0 => ?_
 repeat' (first|refine Sp.h ?_|refine Lk.r rfl ?_|refine Rf.mk rfl ?_|(apply Bd.t;(focus first|assumption|omega|rfl))|(apply Bd.f;(focus first|assumption|omega|exact Bool.false_ne_true))|(refine Bd.mk ?_ ?_ <;> intro _)|(refine Im.mk ?_;intro _)|(apply Nm.r;focus repeat constructor)|(apply Cl.p (sound_p _);(focus repeat' (first|exact Lend.nil|apply Lend.keep|fail))))
 rotate_right
 all_goals try exact ⟨_, _, .one (.same (.nil (by (repeat first|exact .nil|refine .cons (by repeat constructor) ?_)))), _, rfl, rfl, fun h => by cases h⟩
 rename_i hs _ _ _
 refine CA.loop (fun x : Nat × Int × Int => ⟨[(0, ints sizes), (1, tbls l), (5, it x.2.1), (6, it x.2.2), (7, it x.1)], []⟩) (fun x => x.1 ≤ l.length ∧ (∀ t ∈ l.take x.1, TabOK sizes t) ∧ 0 ≤ x.2.1 ∧ x.2.1 ≤ 216 * x.1 ∧ 0 ≤ x.2.2 ∧ x.2.2 ≤ 216 * x.1) (fun x => l.length - x.1) (0, 0, 0) ⟨by repeat first|trivial|refine ⟨rfl,?_⟩,by repeat first|exact .nil|refine .cons (by repeat constructor) ?_⟩ ⟨Nat.zero_le _, by simp, by simp, by simp, by simp, by simp⟩ ?_
 rintro ⟨i, a, b⟩ ⟨hi, ht, ha1, ha2, hb1, hb2⟩
 simp only at hi ht ha1 ha2 hb1 hb2
 simp only
 by_cases hin : i < l.length
 ·obtain ⟨t, hti⟩ := get_of hin
  repeat' (first|refine Sp.h ?_|refine Lk.r rfl ?_|refine Rf.mk rfl ?_|(apply Bd.t;(focus first|assumption|omega|rfl))|(refine Im.mk ?_;intro _)|(refine All.mk ?_;intro _)|(apply TkB.r;(focus repeat constructor))|(apply Ix.q;(focus exact rfl);(focus assumption))|refine Ch.l ⟨rfl, rfl⟩ ?_|(apply SetAsk.r;(focus (repeat (first|exact SetAs.z|(apply SetAs.c;(focus (repeat first|assumption|constructor)))))))|(apply Nm.r;focus repeat constructor)|fail)
  rename_i b8
  refine CA.loop (fun k : Nat => ⟨[(0, ints sizes), (1, tbls l), (5, it a), (6, it b), (7, it i), (8, .val (.pointer (some ⟨b8, 0, none⟩))), (9, it k)], [blkR b8 157 (tblC t)]⟩) (fun k => k ≤ i) (fun k => i - k) 0 ⟨by repeat first|trivial|refine ⟨rfl,?_⟩,by repeat first|exact .nil|refine .cons (by repeat constructor) ?_⟩ (Nat.zero_le _) ?_
  intro k hk
  by_cases hki : k < i
  ·obtain ⟨u, hu⟩ := get_of (l := l) (i := k) (by omega)
   repeat' (first|refine Sp.h ?_|refine Lk.r rfl ?_|refine Rf.mk rfl ?_|(apply Bd.t;(focus first|assumption|omega|rfl))|(refine Bd.mk ?_ ?_ <;> intro _)|refine OpK.r rfl ?_|(apply TkB.r;(focus repeat constructor))|(apply Ix.q;(focus exact rfl);(focus assumption))|(apply Nm.r;focus repeat constructor)|(apply CA.draw;(focus rfl);(focus kernel_rfl);(focus kernel_rfl);(focus repeat' constructor);(focus rfl))|(apply Ov.n;(focus first|omega|(simp <;> omega)))|fail)
   all_goals first
    | exact PA.lp (k + 1) ⟨by repeat first|trivial|refine ⟨rfl,?_⟩,by repeat first|exact .nil|refine .cons (by repeat constructor) ?_⟩ ⟨hki, by omega⟩
    | exact ⟨_, _, .one (.same (.nil (by (repeat first|exact .nil|refine .cons (by repeat constructor) ?_)))), _, rfl, rfl, fun h => by cases h⟩
  ·have hn := num_le sizes t.cols
   repeat' (first|refine Sp.h ?_|refine Lk.r rfl ?_|refine Rf.mk rfl ?_|(apply Bd.f;(focus first|assumption|omega|exact Bool.false_ne_true))|(apply TkB.r;(focus repeat constructor))|(apply Cl.p (number_p _ _);(focus repeat' (first|exact Lend.nil|apply Lend.keep|fail))))
   (apply Cl.use (name_c t.name);(focus repeat' (first|exact Lend.nil|apply Lend.keep|fail));(focus (repeat (first|exact Takes.nil|(apply Takes.cons;(focus repeat constructor)))));(focus rfl))
   rintro _ _ ⟨nb, rfl, rfl⟩
   cases nb
   ·repeat' (first|refine Sp.h ?_|refine Lk.r rfl ?_|refine Rf.mk rfl ?_|(apply Bd.f;(focus first|assumption|omega|exact Bool.false_ne_true))|(apply Nm.r;focus repeat constructor)|fail)
    exact ⟨_, _, .one (.same (.nil (by (repeat first|exact .nil|refine .cons (by repeat constructor) ?_)))), _, rfl, rfl, fun h => by cases h⟩
   ·by_cases hst : isStrict t.kind
    ·repeat' (first|refine Sp.h ?_|refine Lk.r rfl ?_|refine Rf.mk rfl ?_|(apply Bd.t;(focus first|assumption|omega|rfl))|(apply Bd.f;(focus first|assumption|omega|exact Bool.false_ne_true))|(refine Bd.mk ?_ ?_ <;> intro _)|(apply TkB.r;(focus repeat constructor))|(apply Nm.r;focus repeat constructor)|(apply Ov.n;(focus first|omega|(simp <;> omega)))|(apply Cl.p (strict9_p _);(focus repeat' (first|exact Lend.nil|apply Lend.keep|fail))))
     all_goals try exact ⟨_, _, .one (.same (.nil (by (repeat first|exact .nil|refine .cons (by repeat constructor) ?_)))), _, rfl, rfl, fun h => by cases h⟩
     all_goals have hT : TabOK sizes t := ⟨num_ne (by assumption), by omega, by omega, by omega, by omega, by omega⟩
     all_goals exact PA.lp (i + 1, a + numF sizes t.cols, b) ⟨by repeat first|trivial|refine ⟨rfl,?_⟩,by repeat first|exact .nil|refine .cons (by repeat constructor) ?_⟩ ⟨⟨hin, all_succ hti ht hT, by simp only;omega, by simp only;omega, by simp only;omega, by simp only;omega⟩, by simp only;omega⟩
    ·repeat' (first|refine Sp.h ?_|refine Lk.r rfl ?_|refine Rf.mk rfl ?_|(apply Bd.t;(focus first|assumption|omega|rfl))|(apply Bd.f;(focus first|assumption|omega|exact Bool.false_ne_true))|(refine Bd.mk ?_ ?_ <;> intro _)|(apply TkB.r;(focus repeat constructor))|(apply Nm.r;focus repeat constructor)|(apply Ov.n;(focus first|omega|(simp <;> omega)))|(apply Cl.p (strict9_p _);(focus repeat' (first|exact Lend.nil|apply Lend.keep|fail))))
     all_goals try exact ⟨_, _, .one (.same (.nil (by (repeat first|exact .nil|refine .cons (by repeat constructor) ?_)))), _, rfl, rfl, fun h => by cases h⟩
     all_goals have hT : TabOK sizes t := ⟨num_ne (by assumption), by omega, by omega, by omega, by omega, by omega⟩
     all_goals exact PA.lp (i + 1, a, b + numF sizes t.cols) ⟨by repeat first|trivial|refine ⟨rfl,?_⟩,by repeat first|exact .nil|refine .cons (by repeat constructor) ?_⟩ ⟨⟨hin, all_succ hti ht hT, by simp only;omega, by simp only;omega, by simp only;omega, by simp only;omega⟩, by simp only;omega⟩
 ·have : i = l.length := by omega
  subst this
  rw [List.take_length] at ht
  repeat' (first|refine Sp.h ?_|refine Lk.r rfl ?_|refine Rf.mk rfl ?_|(apply Bd.t;(focus first|assumption|omega|rfl))|(apply Bd.f;(focus first|assumption|omega|exact Bool.false_ne_true))|(refine Bd.mk ?_ ?_ <;> intro _)|(refine Im.mk ?_;intro _)|(apply Nm.r;focus repeat constructor)|fail)
  all_goals exact ⟨_, _, .one (.same (.nil (by (repeat first|exact .nil|refine .cons (by repeat constructor) ?_)))), _, rfl, rfl, fun _ => ⟨by omega, by assumption, by omega, ht⟩⟩
end Go.Proofs.YtmllihbhphnolaaGreat
namespace Go.Proofs.YtmllihbhphnolaaGreat
open Go Go.CF
set_option maxRecDepth 20000
def rngC (p : Int × Int) : List AV := [it p.1, it p.2]
instance {a b : Int} : Inv rngC [it a, it b] (a, b) := ⟨rfl⟩
def RgOK (rs : List (Int × Int)) : Prop := ∀ p ∈ rs, -9999 ≤ p.1 ∧ p.1 ≤ p.2 ∧ p.2 ≤ 9999
theorem rg_app {rs : List (Int × Int)} (h : RgOK rs) {a b : Int} (h1 : -9999 ≤ a) (h2 : a ≤ b) (h3 : b ≤ 9999) : RgOK (rs ++ [(a, b)]) := by
 intro p hp
 rcases List.mem_append.1 hp with hp|hp
 ·exact h p hp
 ·rw [List.mem_singleton.1 hp];exact ⟨h1, h2, h3⟩
set_option maxHeartbeats 1000000 in
theorem ranges_c (sizes : List Int) (l : List TblS) (s : Bool) : CallA Tryz.prog 271 [ints sizes, tbls l, .val (.bool s)] [] fun r own => ∃ rs : List (Int × Int), r = .sl 2 rs rngC ∧ own = [] ∧ rs.length ≤ 2592 ∧ RgOK rs := by
 refine CallA.of pg ord271 Tryz.func271 rfl Tryz.ntmps271 Tryz.results271 rfl fun h0 G0 O0 => ?_
 repeat' (first|refine Sp.h ?_|refine Lk.r rfl ?_|refine Rf.mk rfl ?_|(refine All.mk ?_;intro _)|(apply Fk.r;(focus (repeat (first|exact FillA.nil|(apply FillA.agg;(focus rfl);(focus rfl);(focus (repeat (first|exact SetAs.z|(apply SetAs.c;(focus (repeat first|assumption|constructor)))))))|(apply FillA.one;(focus rfl);(focus infer_instance);(focus (repeat first|assumption|constructor)))))))|refine Rf.mk ⟨rfl, rfl, rfl⟩ ?_|fail)
 (apply Cl.use (valid9_c sizes l);(focus repeat' (first|exact Lend.nil|apply Lend.keep|fail));(focus (repeat (first|exact Takes.nil|(apply Takes.cons;(focus repeat constructor)))));(focus rfl))
 rintro _ _ ⟨b, rfl, rfl, hb⟩
 apply OA.retype (m := ([] : List (Int × Int))) (g := rngC)
 focus (repeat constructor)
 focus rfl
 cases b
 ·repeat' (first|refine Sp.h ?_|refine Lk.r rfl ?_|refine Rf.mk rfl ?_|(apply Bd.f;(focus first|assumption|omega|exact Bool.false_ne_true))|(apply Nm.r;focus repeat constructor)|fail)
  exact ⟨_, _, .one (.fz (by repeat constructor) (by simp) (.nil (by (repeat first|exact .nil|refine .cons (by repeat constructor) ?_)))), [], rfl, rfl, by simp, fun p hp => by cases hp⟩
 obtain ⟨h1, h2, h3, h4⟩ := hb rfl
 repeat' (first|refine Sp.h ?_|refine Lk.r rfl ?_|refine Rf.mk rfl ?_|(apply Bd.t;(focus first|assumption|omega|rfl))|fail)
 rename_i v
 refine CA.loop (fun x : Nat × Value × List (Int × Int) => ⟨[(0, ints sizes), (1, tbls l), (2, .val (.bool s)), (7, .ow x.2.1), (8, it x.1)], [arrR x.2.1 155 2 x.2.2 rngC]⟩) (fun x => x.1 ≤ l.length ∧ x.2.2.length ≤ 216 * x.1 ∧ RgOK x.2.2) (fun x => l.length - x.1) (0, v, []) ⟨by repeat first|trivial|refine ⟨rfl,?_⟩,by repeat first|exact .nil|refine .cons (by repeat constructor) ?_⟩ ⟨Nat.zero_le _, by simp, fun p hp => by cases hp⟩ ?_
 rintro ⟨i, v, rs⟩ ⟨hi, hr1, hr2⟩
 simp only at hi hr1 hr2
 simp only
 by_cases hin : i < l.length
 ·obtain ⟨t, ht⟩ := get_of hin
  obtain ⟨g1, g2, g3, g4, g5, g6⟩ := h4 t (List.mem_of_getElem? ht)
  have hn := num_le sizes t.cols
  repeat' (first|refine Sp.h ?_|refine Lk.r rfl ?_|refine Rf.mk rfl ?_|(apply Bd.t;(focus first|assumption|omega|rfl))|(refine Im.mk ?_;intro _)|fail)
  refine CA.loop (fun x : Nat × Value × List (Int × Int) => ⟨[(0, ints sizes), (1, tbls l), (2, .val (.bool s)), (7, .ow x.2.1), (8, it i), (9, it x.1)], [arrR x.2.1 155 2 x.2.2 rngC]⟩) (fun x => (x.1 : Int) ≤ numF sizes t.cols ∧ x.2.2.length ≤ 216 * i + x.1 ∧ RgOK x.2.2) (fun x => (numF sizes t.cols).toNat - x.1) (0, v, rs) ⟨by repeat first|trivial|refine ⟨rfl,?_⟩,by repeat first|exact .nil|refine .cons (by repeat constructor) ?_⟩ ⟨by simp only;omega, by simp only;omega, hr2⟩ ?_
  rintro ⟨k, v, rs⟩ ⟨hk, hr1, hr2⟩
  simp only at hk hr1 hr2
  simp only
  by_cases hkn : (k : Int) < numF sizes t.cols
  ·repeat' (first|refine Sp.h ?_|refine Lk.r rfl ?_|refine Rf.mk rfl ?_|(apply Bd.t;(focus first|assumption|omega|rfl))|(apply Bd.f;(focus first|assumption|omega|exact Bool.false_ne_true))|(refine Bd.mk ?_ ?_ <;> intro _)|(apply Om.mk;(focus first|omega|(simp <;> omega)))|(refine All.mk ?_;intro _)|(apply TkA.r;(focus repeat constructor))|(apply Ix.q;(focus exact rfl);(focus assumption))|refine Ce.r ?_|refine Ch.r ?_|(apply Fk.r;(focus (repeat (first|exact FillA.nil|(apply FillA.agg;(focus rfl);(focus rfl);(focus (repeat (first|exact SetAs.z|(apply SetAs.c;(focus (repeat first|assumption|constructor)))))))|(apply FillA.one;(focus rfl);(focus infer_instance);(focus (repeat first|assumption|constructor)))))))|refine Rf.mk ⟨rfl, rfl⟩ ?_|refine Rf.mk ⟨rfl, rfl, rfl⟩ ?_|(apply Mp.lit;(focus repeat (first|exact MpL.nil|(apply MpL.cons;(focus rfl))|(apply MpL.inv;(focus repeat constructor);(focus infer_instance)))))|(apply Ov.n;(focus first|omega|(simp <;> omega)))|(apply Cl.p (strict9_p _);(focus repeat' (first|exact Lend.nil|apply Lend.keep|fail)))|(apply Cl.p (number_p _ _);(focus repeat' (first|exact Lend.nil|apply Lend.keep|fail))))
   ·exact PA.lp (k + 1, _, rs ++ [(t.lo, t.hi)]) ⟨by repeat first|trivial|refine ⟨rfl,?_⟩,by repeat first|exact .nil|refine .cons (by repeat constructor) ?_⟩ ⟨⟨by simp only;omega, by simp only [List.length_append, List.length_singleton];omega, rg_app hr2 g4 g5 g6⟩, by simp only;omega⟩
   ·exact PA.lp (i + 1, v, rs) ⟨by repeat first|trivial|refine ⟨rfl,?_⟩,by repeat first|exact .nil|refine .cons (by repeat constructor) ?_⟩ ⟨⟨hin, by simp only;omega, hr2⟩, by simp only;omega⟩
  ·repeat' (first|refine Sp.h ?_|refine Lk.r rfl ?_|refine Rf.mk rfl ?_|(apply Bd.t;(focus first|assumption|omega|rfl))|(apply Bd.f;(focus first|assumption|omega|exact Bool.false_ne_true))|(refine Bd.mk ?_ ?_ <;> intro _)|(apply Ix.q;(focus exact rfl);(focus assumption))|(apply Ov.n;(focus first|omega|(simp <;> omega)))|(apply Cl.p (strict9_p _);(focus repeat' (first|exact Lend.nil|apply Lend.keep|fail)))|(apply Cl.p (number_p _ _);(focus repeat' (first|exact Lend.nil|apply Lend.keep|fail))))
   all_goals exact PA.lp (i + 1, v, rs) ⟨by repeat first|trivial|refine ⟨rfl,?_⟩,by repeat first|exact .nil|refine .cons (by repeat constructor) ?_⟩ ⟨⟨hin, by simp only;omega, hr2⟩, by simp only;omega⟩
 ·repeat' (first|refine Sp.h ?_|refine Lk.r rfl ?_|refine Rf.mk rfl ?_|(apply Bd.f;(focus first|assumption|omega|exact Bool.false_ne_true))|(refine Im.mk ?_;intro _)|(apply Nm.r;focus repeat constructor)|fail)
  exact ⟨_, _, .one (.fz (by repeat constructor) (by omega) (.nil (by (repeat first|exact .nil|refine .cons (by repeat constructor) ?_)))), rs, rfl, rfl, by omega, hr2⟩
end Go.Proofs.YtmllihbhphnolaaGreat
namespace Go.Proofs.YtmllihbhphnolaaGreat
open Go Go.CF
set_option maxRecDepth 20000
theorem distinct_c (l : List ByteArray) : CallB Tryz.prog 158 [.sl 1 l strC] := by
 refine CallA.of pg ord158 Tryz.func158 rfl Tryz.ntmps158 Tryz.results158 rfl fun h0 G0 O0 => ?_
 repeat' (first|refine Sp.h ?_|refine Lk.r rfl ?_|refine Rf.mk rfl ?_|fail)
 refine CA.loop (fun i : Nat => ⟨[(0, .sl 1 l strC), (3, it i)], []⟩) (fun i => i ≤ l.length) (fun i => l.length - i) 0 ⟨by repeat first|trivial|refine ⟨rfl,?_⟩,by repeat first|exact .nil|refine .cons (by repeat constructor) ?_⟩ (Nat.zero_le _) ?_
 intro i hi
 by_cases hin : i < l.length
 ·obtain ⟨s, hs⟩ := get_of hin
  repeat' (first|refine Sp.h ?_|refine Lk.r rfl ?_|refine Rf.mk rfl ?_|(apply Bd.t;(focus first|assumption|omega|rfl))|refine OpK.r rfl ?_|(refine Im.mk ?_;intro _)|(apply Ix.q;(focus exact rfl);(focus assumption))|(apply CA.draw;(focus rfl);(focus kernel_rfl);(focus kernel_rfl);(focus repeat' constructor);(focus rfl))|fail)
  (apply Cl.use (name_c s);(focus repeat' (first|exact Lend.nil|apply Lend.keep|fail));(focus (repeat (first|exact Takes.nil|(apply Takes.cons;(focus repeat constructor)))));(focus rfl))
  rintro _ _ ⟨b, rfl, rfl⟩
  cases b
  ·repeat' (first|refine Sp.h ?_|refine Lk.r rfl ?_|refine Rf.mk rfl ?_|(apply Bd.f;(focus first|assumption|omega|exact Bool.false_ne_true))|refine OpK.r rfl ?_|(apply Nm.r;focus repeat constructor)|fail)
   exact ⟨_, _, .one (.same (.nil (by (repeat first|exact .nil|refine .cons (by repeat constructor) ?_)))), _, rfl, rfl⟩
  ·repeat' (first|refine Sp.h ?_|refine Lk.r rfl ?_|refine Rf.mk rfl ?_|(apply Bd.t;(focus first|assumption|omega|rfl))|(refine Bd.mk ?_ ?_ <;> intro _)|refine OpK.r rfl ?_|(apply Ix.q;(focus exact rfl);(focus assumption))|(apply Nm.r;focus repeat constructor)|(apply Jx.r;(focus exact rfl);(focus first|omega|(simp;done)|(simp;omega)))|(apply Ov.n;(focus first|omega|(simp <;> omega)))|(apply Cl.p (has_p _ _);(focus repeat' (first|exact Lend.nil|apply Lend.keep|fail))))
   all_goals first
    | exact ⟨_, _, .one (.same (.nil (by (repeat first|exact .nil|refine .cons (by repeat constructor) ?_)))), _, rfl, rfl⟩
    | exact PA.lp (i + 1) ⟨by repeat first|trivial|refine ⟨rfl,?_⟩,by repeat first|exact .nil|refine .cons (by repeat constructor) ?_⟩ ⟨hin, by omega⟩
 ·repeat' (first|refine Sp.h ?_|refine Lk.r rfl ?_|refine Rf.mk rfl ?_|(apply Bd.f;(focus first|assumption|omega|exact Bool.false_ne_true))|(refine Im.mk ?_;intro _)|(apply Nm.r;focus repeat constructor)|fail)
  exact ⟨_, _, .one (.same (.nil (by (repeat first|exact .nil|refine .cons (by repeat constructor) ?_)))), _, rfl, rfl⟩
structure RowS where
 terms : List (Int × Int)
 bound : Int
abbrev terms (l : List (Int × Int)) : AV := .sl 2 l rngC
def rowC (r : RowS) : List AV := [terms r.terms, it r.bound]
def TermOK (n : Int) (p : Int × Int) : Prop := 0 ≤ p.1 ∧ p.1 < n ∧ -1000 ≤ p.2 ∧ p.2 ≤ 1000
def RowOK (n : Int) (r : RowS) : Prop := (∀ p ∈ r.terms, TermOK n p) ∧ -1000000000 ≤ r.bound ∧ r.bound ≤ 1000000000
theorem between13_p (x m : Int) (hm : 0 ≤ m ∧ m ≤ 9223372036854775807) : CallP Tryz.prog 238 [it x, it m] (.val (.bool (decide (-m ≤ x ∧ x ≤ m)))) := by
 refine CallA.of pg ord238 Tryz.func238 rfl Tryz.ntmps238 Tryz.results238 rfl fun h0 G0 O0 => ?_
 repeat' (first|refine Sp.h ?_|refine Lk.r rfl ?_|refine Rf.mk rfl ?_|(apply Bd.t;(focus first|assumption|omega|rfl))|(apply Bd.f;(focus first|assumption|omega|exact Bool.false_ne_true))|(refine Bd.mk ?_ ?_ <;> intro _)|(apply Om.mk;(focus first|omega|(simp <;> omega)))|(apply Nm.r;focus repeat constructor)|fail)
 all_goals refine Fin.p rfl (vb ?_)
 all_goals first
  | exact decide_eq_decide.2 (by omega)
  | exact (decide_eq_false (by omega)).symm
set_option maxHeartbeats 1000000 in
theorem row_c (r : RowS) (n : Int) : CallF Tryz.prog 236 [.agg (rowC r), it n] (RowOK n r) := by
 have hb1 := between13_p r.bound 1000000000 (by omega)
 refine CallA.of pg ord236 Tryz.func236 rfl Tryz.ntmps236 Tryz.results236 rfl fun h0 G0 O0 => ?_
 repeat' (first|refine Sp.h ?_|refine Lk.r rfl ?_|refine Rf.mk rfl ?_|(refine All.mk ?_;intro _)|fail)
 rename_i b2
 refine CA.loop (fun i : Nat => ⟨[(1, it n), (2, .val (.pointer (some ⟨b2, 0, none⟩))), (5, it i)], [blkR b2 223 (rowC r)]⟩) (fun i => i ≤ r.terms.length ∧ ∀ p ∈ r.terms.take i, TermOK n p) (fun i => r.terms.length - i) 0 ⟨by repeat first|trivial|refine ⟨rfl,?_⟩,by repeat first|exact .nil|refine .cons (by repeat constructor) ?_⟩ ⟨Nat.zero_le _, by simp⟩ ?_
 rintro i ⟨hi, ha⟩
 by_cases hin : i < r.terms.length
 ·obtain ⟨p, hp⟩ := get_of hin
  have hbp := between13_p p.2 1000 (by omega)
  rcases Nat.eq_zero_or_pos i with h0|h0
  ·subst h0
   repeat' (first|refine Sp.h ?_|refine Lk.r rfl ?_|refine Rf.mk rfl ?_|(apply Bd.t;(focus first|assumption|omega|rfl))|(apply Bd.f;(focus first|assumption|omega|exact Bool.false_ne_true))|(refine Bd.mk ?_ ?_ <;> intro _)|refine OpK.r rfl ?_|(refine Im.mk ?_;intro _)|(refine All.mk ?_;intro _)|(apply TkB.r;(focus repeat constructor))|(apply Ix.q;(focus exact rfl);(focus assumption))|refine Ch.l ⟨rfl, rfl⟩ ?_|(apply SetAsk.r;(focus (repeat (first|exact SetAs.z|(apply SetAs.c;(focus (repeat first|assumption|constructor)))))))|(apply Nm.r;focus repeat constructor)|(apply CA.draw;(focus rfl);(focus kernel_rfl);(focus kernel_rfl);(focus repeat' constructor);(focus rfl))|(apply Ov.n;(focus first|omega|(simp <;> omega)))|(apply Cl.p (hbp);(focus repeat' (first|exact Lend.nil|apply Lend.keep|fail))))
   all_goals try exact ⟨_, _, .one (.same (.nil (by (repeat first|exact .nil|refine .cons (by repeat constructor) ?_)))), _, rfl, rfl, fun h => by cases h⟩
   exact PA.lp 1 ⟨by repeat first|trivial|refine ⟨rfl,?_⟩,by repeat first|exact .nil|refine .cons (by repeat constructor) ?_⟩ ⟨⟨hin, all_succ hp ha ⟨by omega, by omega, by omega, by omega⟩⟩, by omega⟩
  ·obtain ⟨k, rfl⟩ : ∃ k, i = k + 1 := ⟨i - 1, by omega⟩
   obtain ⟨q, hq⟩ := get_of (l := r.terms) (i := k) (by omega)
   repeat' (first|refine Sp.h ?_|refine Lk.r rfl ?_|refine Rf.mk rfl ?_|(apply Bd.t;(focus first|assumption|omega|rfl))|(apply Bd.f;(focus first|assumption|omega|exact Bool.false_ne_true))|(refine Bd.mk ?_ ?_ <;> intro _)|refine OpK.r rfl ?_|(refine Im.mk ?_;intro _)|(refine All.mk ?_;intro _)|(apply TkB.r;(focus repeat constructor))|(apply Ix.q;(focus exact rfl);(focus assumption))|(apply Ix.r;(focus assumption);(focus omega))|refine Ch.l ⟨rfl, rfl⟩ ?_|(apply SetAsk.r;(focus (repeat (first|exact SetAs.z|(apply SetAs.c;(focus (repeat first|assumption|constructor)))))))|(apply Nm.r;focus repeat constructor)|(apply CA.draw;(focus rfl);(focus kernel_rfl);(focus kernel_rfl);(focus repeat' constructor);(focus rfl))|(apply Ov.n;(focus first|omega|(simp <;> omega)))|(apply Cl.p (hbp);(focus repeat' (first|exact Lend.nil|apply Lend.keep|fail))))
   all_goals try exact ⟨_, _, .one (.same (.nil (by (repeat first|exact .nil|refine .cons (by repeat constructor) ?_)))), _, rfl, rfl, fun h => by cases h⟩
   exact PA.lp (k + 1 + 1) ⟨by repeat first|trivial|refine ⟨rfl,?_⟩,by repeat first|exact .nil|refine .cons (by repeat constructor) ?_⟩ ⟨⟨hin, all_succ hp ha ⟨by omega, by omega, by omega, by omega⟩⟩, by omega⟩
 ·have : i = r.terms.length := by omega
  subst this
  rw [List.take_length] at ha
  repeat' (first|refine Sp.h ?_|refine Lk.r rfl ?_|refine Rf.mk rfl ?_|(apply Bd.f;(focus first|assumption|omega|exact Bool.false_ne_true))|(refine Im.mk ?_;intro _)|(apply TkB.r;(focus repeat constructor))|(apply Nm.r;focus repeat constructor)|(apply Cl.p (hb1);(focus repeat' (first|exact Lend.nil|apply Lend.keep|fail))))
  all_goals exact ⟨_, _, .one (.same (.nil (by (repeat first|exact .nil|refine .cons (by repeat constructor) ?_)))), _, rfl, rfl, fun h => ⟨ha, of_decide_eq_true h⟩⟩
end Go.Proofs.YtmllihbhphnolaaGreat
namespace Go.Proofs.YtmllihbhphnolaaGreat
open Go Go.CF
set_option maxRecDepth 20000
structure CnsS where
 kind : Int
 family : Int
 row : RowS
 first : Int
 size : Int
def cnsC (c : CnsS) : List AV := [it c.kind, it c.family, terms c.row.terms, it c.row.bound, it c.first, it c.size]
structure OpS where
 name : ByteArray
 ordered : Bool
 sorts : List Int
def opC (o : OpS) : List AV := [sv o.name, .val (.bool o.ordered), ints o.sorts]
def updC : Int × Int × Int → List AV
 | (a, b, c) => [it a, it b, it c]
structure EffS where
 delta : List (Int × Int)
 hold : List RowS
 updates : List (Int × Int × Int)
def effC (e : EffS) : List AV := [terms e.delta, .sl 2 e.hold rowC, .sl 3 e.updates updC]
structure ActS where
 op : Int
 args : List Int
 eff : EffS
def actC (a : ActS) : List AV := [it a.op, ints a.args, terms a.eff.delta, .sl 2 a.eff.hold rowC, .sl 3 a.eff.updates updC]
structure ModS where
 sorts : List Int
 tables : List TblS
 families : List ByteArray
 cons : List CnsS
 ops : List OpS
 acts : List ActS
 hides : List (Int × Int × Int)
def modC (m : ModS) : List AV := [ints m.sorts, tbls m.tables, .sl 1 m.families strC, .sl 6 m.cons cnsC, .sl 3 m.ops opC, .sl 5 m.acts actC, .sl 3 m.hides updC]
abbrev mdl (m : ModS) : AV := .agg (modC m)
theorem sameTerms_c (a b : List (Int × Int)) : CallB Tryz.prog 272 [terms a, terms b] := by
 refine CallA.of pg ord272 Tryz.func272 rfl Tryz.ntmps272 Tryz.results272 rfl fun h0 G0 O0 => ?_
 by_cases hl : a.length = b.length
 ·repeat' (first|refine Sp.h ?_|refine Lk.r rfl ?_|refine Rf.mk rfl ?_|(apply Bd.t;(focus first|assumption|omega|rfl))|(refine Im.mk ?_;intro _)|fail)
  refine CA.loop (fun i : Nat => ⟨[(0, terms a), (1, terms b), (5, it i)], []⟩) (fun i => i ≤ a.length) (fun i => a.length - i) 0 ⟨by repeat first|trivial|refine ⟨rfl,?_⟩,by repeat first|exact .nil|refine .cons (by repeat constructor) ?_⟩ (Nat.zero_le _) ?_
  intro i hi
  by_cases hin : i < a.length
  ·obtain ⟨p, hp⟩ := get_of hin
   obtain ⟨q, hq⟩ := get_of (l := b) (i := i) (by omega)
   repeat' (first|refine Sp.h ?_|refine Lk.r rfl ?_|refine Rf.mk rfl ?_|(apply Bd.t;(focus first|assumption|omega|rfl))|(refine Bd.mk ?_ ?_ <;> intro _)|refine OpK.r rfl ?_|(refine Im.mk ?_;intro _)|(apply Ix.q;(focus exact rfl);(focus assumption))|refine Ch.l ⟨rfl, rfl⟩ ?_|(apply Nm.r;focus repeat constructor)|(apply Il.r;(focus repeat (first|apply ILit.cons|exact ILit.nil)))|(apply Kf.mk;(focus kernel_rfl))|(apply CA.draw;(focus rfl);(focus kernel_rfl);(focus kernel_rfl);(focus repeat' constructor);(focus rfl))|(apply Ov.n;(focus first|omega|(simp <;> omega)))|fail)
   all_goals first
    | exact ⟨_, _, .one (.same (.nil (by (repeat first|exact .nil|refine .cons (by repeat constructor) ?_)))), _, rfl, rfl⟩
    | exact PA.lp (i + 1) ⟨by repeat first|trivial|refine ⟨rfl,?_⟩,by repeat first|exact .nil|refine .cons (by repeat constructor) ?_⟩ ⟨hin, by omega⟩
  ·repeat' (first|refine Sp.h ?_|refine Lk.r rfl ?_|refine Rf.mk rfl ?_|(apply Bd.f;(focus first|assumption|omega|exact Bool.false_ne_true))|(refine Im.mk ?_;intro _)|(apply Nm.r;focus repeat constructor)|fail)
   exact ⟨_, _, .one (.same (.nil (by (repeat first|exact .nil|refine .cons (by repeat constructor) ?_)))), _, rfl, rfl⟩
 ·repeat' (first|refine Sp.h ?_|refine Lk.r rfl ?_|refine Rf.mk rfl ?_|(apply Bd.f;(focus first|assumption|omega|exact Bool.false_ne_true))|(refine Im.mk ?_;intro _)|(apply Nm.r;focus repeat constructor)|fail)
  all_goals exact ⟨_, _, .one (.same (.nil (by (repeat first|exact .nil|refine .cons (by repeat constructor) ?_)))), _, rfl, rfl⟩
theorem sameRow_c (a b : RowS) : CallB Tryz.prog 235 [.agg (rowC a), .agg (rowC b)] := by
 refine CallA.of pg ord235 Tryz.func235 rfl Tryz.ntmps235 Tryz.results235 rfl fun h0 G0 O0 => ?_
 repeat' (first|refine Sp.h ?_|refine Lk.r rfl ?_|refine Rf.mk rfl ?_|(apply Bd.t;(focus first|assumption|omega|rfl))|(apply Bd.f;(focus first|assumption|omega|exact Bool.false_ne_true))|(refine Bd.mk ?_ ?_ <;> intro _)|(refine All.mk ?_;intro _)|(apply TkB.r;(focus repeat constructor))|(apply Nm.r;focus repeat constructor)|fail)
 ·(apply Cl.use (sameTerms_c _ _);(focus repeat' (first|exact Lend.nil|apply Lend.keep|fail));(focus (repeat (first|exact Takes.nil|(apply Takes.cons;(focus repeat constructor)))));(focus rfl))
  rintro _ _ ⟨x, rfl, rfl⟩
  repeat' (first|refine Sp.h ?_|refine Lk.r rfl ?_|(apply Bd.t;(focus first|assumption|omega|rfl))|(apply Nm.r;focus repeat constructor)|fail)
  exact ⟨_, _, .one (.same (.nil (by (repeat first|exact .nil|refine .cons (by repeat constructor) ?_)))), _, rfl, rfl⟩
 ·exact ⟨_, _, .one (.same (.nil (by (repeat first|exact .nil|refine .cons (by repeat constructor) ?_)))), _, rfl, rfl⟩
theorem graph_c (m : ModS) (c : CnsS) (hm : LayOK m.sorts m.tables) : CallB Tryz.prog 237 [mdl m, .agg (cnsC c)] := by
 refine CallA.of pg ord237 Tryz.func237 rfl Tryz.ntmps237 Tryz.results237 rfl fun h0 G0 O0 => ?_
 repeat' (first|refine Sp.h ?_|refine Lk.r rfl ?_|refine Rf.mk rfl ?_|(apply Bd.t;(focus first|assumption|omega|rfl))|(apply Bd.f;(focus first|assumption|omega|exact Bool.false_ne_true))|(refine Bd.mk ?_ ?_ <;> intro _)|(refine Im.mk ?_;intro _)|(refine All.mk ?_;intro _)|(apply TkB.r;(focus repeat constructor))|(apply Nm.r;focus repeat constructor)|fail)
 all_goals try exact ⟨_, _, .one (.same (.nil (by (repeat first|exact .nil|refine .cons (by repeat constructor) ?_)))), _, rfl, rfl⟩
 rename_i b2 b3 _ _ _
 refine CA.loop (fun i : Nat => ⟨[(2, .val (.pointer (some ⟨b2, 0, none⟩))), (3, .val (.pointer (some ⟨b3, 0, none⟩))), (5, it i)], [blkR b3 225 (cnsC c), blkR b2 30 (modC m)]⟩) (fun i => i ≤ m.tables.length) (fun i => m.tables.length - i) 0 ⟨by repeat first|trivial|refine ⟨rfl,?_⟩,by repeat first|exact .nil|refine .cons (by repeat constructor) ?_⟩ (Nat.zero_le _) ?_
 intro i hi
 by_cases hin : i < m.tables.length
 ·obtain ⟨t, ht⟩ := get_of hin
  obtain ⟨⟨g1, g2, g3⟩, -⟩ := hm.2.2.2 t (List.mem_of_getElem? ht)
  by_cases hl : t.cols.length = 2
  ·obtain ⟨x, hx⟩ := get_of (l := t.cols) (i := 0) (by omega)
   obtain ⟨y, hy⟩ := get_of (l := t.cols) (i := 1) (by omega)
   obtain ⟨hx1, hx2⟩ := g3 x (List.mem_of_getElem? hx)
   obtain ⟨z, hz⟩ := get_of (l := m.sorts) (i := x.toNat) (by omega)
   repeat' (first|refine Sp.h ?_|refine Lk.r rfl ?_|refine Rf.mk rfl ?_|(apply Bd.t;(focus first|assumption|omega|rfl))|(apply Bd.f;(focus first|assumption|omega|exact Bool.false_ne_true))|(refine Bd.mk ?_ ?_ <;> intro _)|refine OpK.r rfl ?_|(refine Im.mk ?_;intro _)|(refine All.mk ?_;intro _)|(apply TkB.r;(focus repeat constructor))|(apply Ix.q;(focus exact rfl);(focus assumption))|(apply Ix.r;(focus assumption);(focus omega))|refine Ch.l ⟨rfl, rfl⟩ ?_|(apply SetAsk.r;(focus (repeat (first|exact SetAs.z|(apply SetAs.c;(focus (repeat first|assumption|constructor)))))))|(apply Nm.r;focus repeat constructor)|(apply CA.draw;(focus rfl);(focus kernel_rfl);(focus kernel_rfl);(focus repeat' constructor);(focus rfl))|(apply Ov.n;(focus first|omega|(simp <;> omega)))|fail)
   all_goals first
    | exact ⟨_, _, .one (.same (.nil (by (repeat first|exact .nil|refine .cons (by repeat constructor) ?_)))), _, rfl, rfl⟩
    | exact PA.lp (i + 1) ⟨by repeat first|trivial|refine ⟨rfl,?_⟩,by repeat first|exact .nil|refine .cons (by repeat constructor) ?_⟩ ⟨hin, by omega⟩
  ·repeat' (first|refine Sp.h ?_|refine Lk.r rfl ?_|refine Rf.mk rfl ?_|(apply Bd.t;(focus first|assumption|omega|rfl))|(apply Bd.f;(focus first|assumption|omega|exact Bool.false_ne_true))|(refine Bd.mk ?_ ?_ <;> intro _)|refine OpK.r rfl ?_|(refine Im.mk ?_;intro _)|(refine All.mk ?_;intro _)|(apply TkB.r;(focus repeat constructor))|(apply Ix.q;(focus exact rfl);(focus assumption))|refine Ch.l ⟨rfl, rfl⟩ ?_|(apply SetAsk.r;(focus (repeat (first|exact SetAs.z|(apply SetAs.c;(focus (repeat first|assumption|constructor)))))))|(apply Nm.r;focus repeat constructor)|(apply CA.draw;(focus rfl);(focus kernel_rfl);(focus kernel_rfl);(focus repeat' constructor);(focus rfl))|(apply Ov.n;(focus first|omega|(simp <;> omega)))|fail)
   all_goals first
    | exact ⟨_, _, .one (.same (.nil (by (repeat first|exact .nil|refine .cons (by repeat constructor) ?_)))), _, rfl, rfl⟩
    | exact PA.lp (i + 1) ⟨by repeat first|trivial|refine ⟨rfl,?_⟩,by repeat first|exact .nil|refine .cons (by repeat constructor) ?_⟩ ⟨hin, by omega⟩
 ·repeat' (first|refine Sp.h ?_|refine Lk.r rfl ?_|refine Rf.mk rfl ?_|(apply Bd.f;(focus first|assumption|omega|exact Bool.false_ne_true))|(refine Im.mk ?_;intro _)|(apply TkB.r;(focus repeat constructor))|(apply Nm.r;focus repeat constructor)|fail)
  exact ⟨_, _, .one (.same (.nil (by (repeat first|exact .nil|refine .cons (by repeat constructor) ?_)))), _, rfl, rfl⟩
end Go.Proofs.YtmllihbhphnolaaGreat
namespace Go.Proofs.YtmllihbhphnolaaGreat
open Go Go.CF
set_option maxRecDepth 20000
theorem strict13_c (m : ModS) : CallA Tryz.prog 234 [mdl m] [] fun r own => ∃ rs : List (Int × Int), r = .sl 2 rs rngC ∧ own = [] ∧ rs.length ≤ 2592 ∧ RgOK rs := by
 refine CallA.of pg ord234 Tryz.func234 rfl Tryz.ntmps234 Tryz.results234 rfl fun h0 G0 O0 => ?_
 repeat' (first|refine Sp.h ?_|refine Lk.r rfl ?_|refine Rf.mk rfl ?_|(refine All.mk ?_;intro _)|(apply TkB.r;(focus repeat constructor))|fail)
 (apply Cl.use (ranges_c _ _ _);(focus repeat' (first|exact Lend.nil|apply Lend.keep|fail));(focus (repeat (first|exact Takes.nil|(apply Takes.cons;(focus repeat constructor)))));(focus rfl))
 rintro _ _ ⟨rs, rfl, rfl, h1, h2⟩
 repeat' (first|refine Sp.h ?_|refine Lk.r rfl ?_|(apply Nm.r;focus repeat constructor)|fail)
 exact ⟨_, _, .one (.same (.nil (by (repeat first|exact .nil|refine .cons (by repeat constructor) ?_)))), rs, rfl, rfl, h1, h2⟩
set_option maxHeartbeats 2000000 in
theorem constraints_c (m : ModS) (hm : LayOK m.sorts m.tables) : CallB Tryz.prog 159 [mdl m] := by
 refine CallA.of pg ord159 Tryz.func159 rfl Tryz.ntmps159 Tryz.results159 rfl fun h0 G0 O0 => ?_
 repeat' (first|refine Sp.h ?_|refine Lk.r rfl ?_|refine Rf.mk rfl ?_|(refine All.mk ?_;intro _)|(apply TkB.r;(focus repeat constructor))|refine Ch.l ⟨rfl, rfl⟩ ?_|fail)
 (apply Cl.use (strict13_c m);(focus repeat' (first|exact Lend.nil|apply Lend.keep|fail));(focus (repeat (first|exact Takes.nil|(apply Takes.cons;(focus repeat constructor)))));(focus rfl))
 rintro _ _ ⟨rs, rfl, rfl, hr1, hr2⟩
 repeat' (first|refine Sp.h ?_|refine Lk.r rfl ?_|refine Rf.mk rfl ?_|(apply Bd.t;(focus first|assumption|omega|rfl))|(apply Bd.f;(focus first|assumption|omega|exact Bool.false_ne_true))|(refine Bd.mk ?_ ?_ <;> intro _)|(apply Om.mk;(focus first|omega|(simp <;> omega)))|(refine Im.mk ?_;intro _)|(apply TkB.r;(focus repeat constructor))|(apply Nm.r;focus repeat constructor)|fail)
 all_goals try exact ⟨_, _, .one (.same (.nil (by (repeat first|exact .nil|refine .cons (by repeat constructor) ?_)))), _, rfl, rfl⟩
 rename_i b1 _ _ _ _ _
 refine CA.loop (fun i : Nat => ⟨[(1, .val (.pointer (some ⟨b1, 0, none⟩))), (3, .sl 2 rs rngC), (4, it i)], [blkR b1 30 (modC m)]⟩) (fun i => i ≤ rs.length) (fun i => rs.length - i) 0 ⟨by repeat first|trivial|refine ⟨rfl,?_⟩,by repeat first|exact .nil|refine .cons (by repeat constructor) ?_⟩ (Nat.zero_le _) ?_
 intro i hi
 by_cases hin : i < rs.length
 ·obtain ⟨p, hp⟩ := get_of hin
  obtain ⟨h1, h2, h3⟩ := hr2 p (List.mem_of_getElem? hp)
  obtain ⟨c, hc⟩ := get_of (l := m.cons) (i := 2 * i) (by omega)
  obtain ⟨c2, hc2⟩ := get_of (l := m.cons) (i := 2 * i + 1) (by omega)
  have hc2' : m.cons[2 * i + 1]? = some c2 := hc2
  have hcc : m.cons[2 * i]? = some c := hc
  clear hc2
  repeat' (first|refine Sp.h ?_|refine Lk.r rfl ?_|refine Rf.mk rfl ?_|(apply Bd.t;(focus first|assumption|omega|rfl))|refine OpK.r rfl ?_|(apply Om.mk;(focus first|omega|(simp <;> omega)))|(refine Im.mk ?_;intro _)|(refine All.mk ?_;intro _)|(apply TkB.r;(focus repeat constructor))|(apply Ix.q;(focus exact rfl);(focus assumption))|refine Ch.l ⟨rfl, rfl⟩ ?_|refine Ch.r ?_|(apply SetAsk.r;(focus (repeat (first|exact SetAs.z|(apply SetAs.c;(focus (repeat first|assumption|constructor)))))))|(apply Fk.r;(focus (repeat (first|exact FillA.nil|(apply FillA.agg;(focus rfl);(focus rfl);(focus (repeat (first|exact SetAs.z|(apply SetAs.c;(focus (repeat first|assumption|constructor)))))))|(apply FillA.one;(focus rfl);(focus infer_instance);(focus (repeat first|assumption|constructor)))))))|(apply Nm.r;focus repeat constructor)|refine Rf.mk ⟨rfl, rfl, rfl⟩ ?_|(apply CA.draw;(focus rfl);(focus kernel_rfl);(focus kernel_rfl);(focus repeat' constructor);(focus rfl))|fail)
  (apply Cl.fz;(focus repeat' (first|exact FZ.nil|(apply FZ.fz;(focus repeat constructor);(focus first|omega|decide|exact Nat.le_of_ble_eq_true rfl|(simp <;> omega)))|apply FZ.agg|apply FZ.same)))
  apply Cl.use (sameRow_c c.row ⟨[((i : Int), -1)], -p.1⟩)
  focus exact .keep (.agg (.mp rfl (.keep .nil)) .nil)
  focus exact .nil
  focus rfl
  rintro _ _ ⟨x, rfl, rfl⟩
  cases x
  ·repeat' (first|refine Sp.h ?_|refine Lk.r rfl ?_|refine Rf.mk rfl ?_|(apply Bd.f;(focus first|assumption|omega|exact Bool.false_ne_true))|refine OpK.r rfl ?_|(apply Nm.r;focus repeat constructor)|fail)
   exact ⟨_, _, .one (.same (.nil (by (repeat first|exact .nil|refine .cons (by repeat constructor) ?_)))), _, rfl, rfl⟩
  ·clear hcc hc
   repeat' (first|refine Sp.h ?_|refine Lk.r rfl ?_|refine Rf.mk rfl ?_|(apply Bd.t;(focus first|assumption|omega|rfl))|refine OpK.r rfl ?_|(apply Om.mk;(focus first|omega|(simp <;> omega)))|(apply TkB.r;(focus repeat constructor))|(apply Ix.q;(focus exact rfl);(focus assumption))|refine Ch.l ⟨rfl, rfl⟩ ?_|refine Ch.r ?_|(apply Ov.n;(focus first|omega|(simp <;> omega)))|fail)
   (apply Cl.fz;(focus repeat' (first|exact FZ.nil|(apply FZ.fz;(focus repeat constructor);(focus first|omega|decide|exact Nat.le_of_ble_eq_true rfl|(simp <;> omega)))|apply FZ.agg|apply FZ.same)))
   apply Cl.use (sameRow_c c2.row ⟨[((i : Int), 1)], p.2⟩)
   focus exact .keep (.agg (.mp rfl (.keep .nil)) .nil)
   focus exact .nil
   focus rfl
   rintro _ _ ⟨x, rfl, rfl⟩
   cases x
   ·repeat' (first|refine Sp.h ?_|refine Lk.r rfl ?_|refine Rf.mk rfl ?_|(apply Bd.t;(focus first|assumption|omega|rfl))|(apply Bd.f;(focus first|assumption|omega|exact Bool.false_ne_true))|refine OpK.r rfl ?_|(apply Nm.r;focus repeat constructor)|fail)
    exact ⟨_, _, .one (.same (.nil (by (repeat first|exact .nil|refine .cons (by repeat constructor) ?_)))), _, rfl, rfl⟩
   ·repeat' (first|refine Sp.h ?_|refine Lk.r rfl ?_|refine Rf.mk rfl ?_|(apply Bd.t;(focus first|assumption|omega|rfl))|refine OpK.r rfl ?_|(apply Ov.n;(focus first|omega|(simp <;> omega)))|fail)
    exact PA.lp (i + 1) ⟨by repeat first|trivial|refine ⟨rfl,?_⟩,by repeat first|exact .nil|refine .cons (by repeat constructor) ?_⟩ ⟨hin, by omega⟩
 ·repeat' (first|refine Sp.h ?_|refine Lk.r rfl ?_|refine Rf.mk rfl ?_|(apply Bd.f;(focus first|assumption|omega|exact Bool.false_ne_true))|(refine Im.mk ?_;intro _)|fail)
  refine CA.loop (fun i : Nat => ⟨[(1, .val (.pointer (some ⟨b1, 0, none⟩))), (3, .sl 2 rs rngC), (7, it i)], [blkR b1 30 (modC m)]⟩) (fun i => i ≤ m.cons.length) (fun i => m.cons.length - i) 0 ⟨by repeat first|trivial|refine ⟨rfl,?_⟩,by repeat first|exact .nil|refine .cons (by repeat constructor) ?_⟩ (Nat.zero_le _) ?_
  intro i hi
  by_cases hin : i < m.cons.length
  ·obtain ⟨c, hc⟩ := get_of hin
   have hg := graph_c m c hm
   have hrow := row_c c.row (rs.length : Int)
   repeat' (first|refine Sp.h ?_|refine Lk.r rfl ?_|refine Rf.mk rfl ?_|(apply Bd.t;(focus first|assumption|omega|rfl))|(apply Bd.f;(focus first|assumption|omega|exact Bool.false_ne_true))|(refine Bd.mk ?_ ?_ <;> intro _)|(apply Om.mk;(focus first|omega|(simp <;> omega)))|(refine Im.mk ?_;intro _)|(refine All.mk ?_;intro _)|(apply TkB.r;(focus repeat constructor))|(apply Ix.q;(focus exact rfl);(focus assumption))|refine Ch.l ⟨rfl, rfl⟩ ?_|refine Ch.r ?_|(apply SetAsk.r;(focus (repeat (first|exact SetAs.z|(apply SetAs.c;(focus (repeat first|assumption|constructor)))))))|(apply Nm.r;focus repeat constructor)|fail)
   all_goals try exact ⟨_, _, .one (.same (.nil (by (repeat first|exact .nil|refine .cons (by repeat constructor) ?_)))), _, rfl, rfl⟩
   any_goals ((apply Cl.use (hrow);(focus repeat' (first|exact Lend.nil|apply Lend.keep|fail));(focus (repeat (first|exact Takes.nil|(apply Takes.cons;(focus repeat constructor)))));(focus rfl));(rintro _ _ ⟨x, rfl, rfl, -⟩);cases x)
   all_goals repeat' (first|refine Sp.h ?_|refine Lk.r rfl ?_|refine Rf.mk rfl ?_|(apply Bd.t;(focus first|assumption|omega|rfl))|(apply Bd.f;(focus first|assumption|omega|exact Bool.false_ne_true))|(refine Bd.mk ?_ ?_ <;> intro _)|(apply Om.mk;(focus first|omega|(simp <;> omega)))|(refine Im.mk ?_;intro _)|(apply TkB.r;(focus repeat constructor))|(apply Nm.r;focus repeat constructor)|(apply Ov.n;(focus first|omega|(simp <;> omega)))|fail)
   all_goals try exact ⟨_, _, .one (.same (.nil (by (repeat first|exact .nil|refine .cons (by repeat constructor) ?_)))), _, rfl, rfl⟩
   all_goals try exact PA.lp (i + 1) ⟨by repeat first|trivial|refine ⟨rfl,?_⟩,by repeat first|exact .nil|refine .cons (by repeat constructor) ?_⟩ ⟨hin, by omega⟩
   any_goals ((apply Cl.use (hg);(focus repeat' (first|exact Lend.nil|apply Lend.keep|fail));(focus (repeat (first|exact Takes.nil|(apply Takes.cons;(focus repeat constructor)))));(focus rfl));(rintro _ _ ⟨y, rfl, rfl⟩);cases y)
   all_goals repeat' (first|refine Sp.h ?_|refine Lk.r rfl ?_|refine Rf.mk rfl ?_|(apply Bd.t;(focus first|assumption|omega|rfl))|(apply Bd.f;(focus first|assumption|omega|exact Bool.false_ne_true))|(apply Nm.r;focus repeat constructor)|(apply Ov.n;(focus first|omega|(simp <;> omega)))|fail)
   all_goals first
    | exact ⟨_, _, .one (.same (.nil (by (repeat first|exact .nil|refine .cons (by repeat constructor) ?_)))), _, rfl, rfl⟩
    | exact PA.lp (i + 1) ⟨by repeat first|trivial|refine ⟨rfl,?_⟩,by repeat first|exact .nil|refine .cons (by repeat constructor) ?_⟩ ⟨hin, by omega⟩
  ·repeat' (first|refine Sp.h ?_|refine Lk.r rfl ?_|refine Rf.mk rfl ?_|(apply Bd.f;(focus first|assumption|omega|exact Bool.false_ne_true))|(refine Im.mk ?_;intro _)|(apply TkB.r;(focus repeat constructor))|(apply Nm.r;focus repeat constructor)|fail)
   exact ⟨_, _, .one (.same (.nil (by (repeat first|exact .nil|refine .cons (by repeat constructor) ?_)))), _, rfl, rfl⟩
end Go.Proofs.YtmllihbhphnolaaGreat
namespace Go.Proofs.YtmllihbhphnolaaGreat
open Go Go.CF
set_option maxRecDepth 20000
theorem less_c (a b : List Int) : CallB Tryz.prog 239 [ints a, ints b] := by
 refine CallA.of pg ord239 Tryz.func239 rfl Tryz.ntmps239 Tryz.results239 rfl fun h0 G0 O0 => ?_
 repeat' (first|refine Sp.h ?_|refine Lk.r rfl ?_|refine Rf.mk rfl ?_|fail)
 refine CA.loop (fun i : Nat => ⟨[(0, ints a), (1, ints b), (5, it i)], []⟩) (fun i => i ≤ a.length) (fun i => a.length - i) 0 ⟨by repeat first|trivial|refine ⟨rfl,?_⟩,by repeat first|exact .nil|refine .cons (by repeat constructor) ?_⟩ (Nat.zero_le _) ?_
 intro i hi
 by_cases hin : i < a.length ∧ i < b.length
 ·obtain ⟨x, hx⟩ := get_of hin.1
  obtain ⟨y, hy⟩ := get_of hin.2
  repeat' (first|refine Sp.h ?_|refine Lk.r rfl ?_|refine Rf.mk rfl ?_|(apply Bd.t;(focus first|assumption|omega|rfl))|(refine Bd.mk ?_ ?_ <;> intro _)|refine OpK.r rfl ?_|(refine Im.mk ?_;intro _)|(apply Ix.q;(focus exact rfl);(focus assumption))|(apply Nm.r;focus repeat constructor)|(apply CA.draw;(focus rfl);(focus kernel_rfl);(focus kernel_rfl);(focus repeat' constructor);(focus rfl))|(apply Ov.n;(focus first|omega|(simp <;> omega)))|fail)
  all_goals first
   | exact ⟨_, _, .one (.same (.nil (by (repeat first|exact .nil|refine .cons (by repeat constructor) ?_)))), _, rfl, rfl⟩
   | exact PA.lp (i + 1) ⟨by repeat first|trivial|refine ⟨rfl,?_⟩,by repeat first|exact .nil|refine .cons (by repeat constructor) ?_⟩ ⟨hin.1, by omega⟩
 ·repeat' (first|refine Sp.h ?_|refine Lk.r rfl ?_|refine Rf.mk rfl ?_|(apply Bd.t;(focus first|assumption|omega|rfl))|(apply Bd.f;(focus first|assumption|omega|exact Bool.false_ne_true))|(refine Bd.mk ?_ ?_ <;> intro _)|(refine Im.mk ?_;intro _)|(apply Nm.r;focus repeat constructor)|fail)
  all_goals exact ⟨_, _, .one (.same (.nil (by (repeat first|exact .nil|refine .cons (by repeat constructor) ?_)))), _, rfl, rfl⟩
theorem leads_c (m : ModS) (n : Nat) (hn : n ≤ 1000) : ∀ a b : Int, CallB Tryz.prog 241 [mdl m, it a, it b, it n] := by
 induction n with
 | zero =>
  intro a b
  refine CallA.of pg ord241 Tryz.func241 rfl Tryz.ntmps241 Tryz.results241 rfl fun h0 G0 O0 => ?_
  repeat' (first|refine Sp.h ?_|refine Lk.r rfl ?_|refine Rf.mk rfl ?_|(refine Bd.mk ?_ ?_ <;> intro _)|(refine All.mk ?_;intro _)|(apply Nm.r;focus repeat constructor)|fail)
  ·exact ⟨_, _, .one (.same (.nil (by (repeat first|exact .nil|refine .cons (by repeat constructor) ?_)))), _, rfl, rfl⟩
  rename_i b4 _
  refine CA.loop (fun i : Nat => ⟨[(1, it a), (2, it b), (3, it (0 : Nat)), (4, .val (.pointer (some ⟨b4, 0, none⟩))), (9, it i)], [blkR b4 30 (modC m)]⟩) (fun i => i ≤ m.hides.length) (fun i => m.hides.length - i) 0 ⟨by repeat first|trivial|refine ⟨rfl,?_⟩,by repeat first|exact .nil|refine .cons (by repeat constructor) ?_⟩ (Nat.zero_le _) ?_
  intro i hi
  by_cases hin : i < m.hides.length
  ·repeat' (first|refine Sp.h ?_|refine Lk.r rfl ?_|refine Rf.mk rfl ?_|(apply Bd.t;(focus first|assumption|omega|rfl))|(apply Bd.f;(focus first|assumption|omega|exact Bool.false_ne_true))|(refine Im.mk ?_;intro _)|(apply TkB.r;(focus repeat constructor))|(apply Nm.r;focus repeat constructor)|fail)
   exact ⟨_, _, .one (.same (.nil (by (repeat first|exact .nil|refine .cons (by repeat constructor) ?_)))), _, rfl, rfl⟩
  ·repeat' (first|refine Sp.h ?_|refine Lk.r rfl ?_|refine Rf.mk rfl ?_|(apply Bd.f;(focus first|assumption|omega|exact Bool.false_ne_true))|(refine Im.mk ?_;intro _)|(apply TkB.r;(focus repeat constructor))|(apply Nm.r;focus repeat constructor)|fail)
   exact ⟨_, _, .one (.same (.nil (by (repeat first|exact .nil|refine .cons (by repeat constructor) ?_)))), _, rfl, rfl⟩
 | succ n ih =>
  intro a b
  have ih := ih (by omega)
  refine CallA.of pg ord241 Tryz.func241 rfl Tryz.ntmps241 Tryz.results241 rfl fun h0 G0 O0 => ?_
  repeat' (first|refine Sp.h ?_|refine Lk.r rfl ?_|refine Rf.mk rfl ?_|(refine Bd.mk ?_ ?_ <;> intro _)|(refine All.mk ?_;intro _)|(apply Nm.r;focus repeat constructor)|fail)
  ·exact ⟨_, _, .one (.same (.nil (by (repeat first|exact .nil|refine .cons (by repeat constructor) ?_)))), _, rfl, rfl⟩
  rename_i b4 _
  refine CA.loop (fun i : Nat => ⟨[(1, it a), (2, it b), (3, it (n + 1 : Nat)), (4, .val (.pointer (some ⟨b4, 0, none⟩))), (9, it i)], [blkR b4 30 (modC m)]⟩) (fun i => i ≤ m.hides.length) (fun i => m.hides.length - i) 0 ⟨by repeat first|trivial|refine ⟨rfl,?_⟩,by repeat first|exact .nil|refine .cons (by repeat constructor) ?_⟩ (Nat.zero_le _) ?_
  intro i hi
  by_cases hin : i < m.hides.length
  ·obtain ⟨⟨h1, h2, h3⟩, hh⟩ := get_of hin
   have ihh := ih h3 b
   rw [show (n : Int) = ((n + 1 : Nat) : Int) - 1 by omega] at ihh
   repeat' (first|refine Sp.h ?_|refine Lk.r rfl ?_|refine Rf.mk rfl ?_|(apply Bd.t;(focus first|assumption|omega|rfl))|(apply Bd.f;(focus first|assumption|omega|exact Bool.false_ne_true))|(refine Bd.mk ?_ ?_ <;> intro _)|refine OpK.r rfl ?_|(refine Im.mk ?_;intro _)|(apply TkB.r;(focus repeat constructor))|(apply Ix.q;(focus exact rfl);(focus assumption))|refine Ch.l ⟨rfl, rfl⟩ ?_|(apply CA.draw;(focus rfl);(focus kernel_rfl);(focus kernel_rfl);(focus repeat' constructor);(focus rfl))|(apply Ov.n;(focus first|omega|(simp <;> omega)))|fail)
   ·(apply Cl.use (ihh);(focus repeat' (first|exact Lend.nil|apply Lend.keep|fail));(focus (repeat (first|exact Takes.nil|(apply Takes.cons;(focus repeat constructor)))));(focus rfl))
    rintro _ _ ⟨x, rfl, rfl⟩
    cases x
    ·repeat' (first|refine Sp.h ?_|refine Lk.r rfl ?_|refine Rf.mk rfl ?_|(apply Bd.t;(focus first|assumption|omega|rfl))|refine OpK.r rfl ?_|(apply Ov.n;(focus first|omega|(simp <;> omega)))|fail)
     exact PA.lp (i + 1) ⟨by repeat first|trivial|refine ⟨rfl,?_⟩,by repeat first|exact .nil|refine .cons (by repeat constructor) ?_⟩ ⟨hin, by omega⟩
    ·repeat' (first|refine Sp.h ?_|refine Lk.r rfl ?_|refine Rf.mk rfl ?_|(apply Bd.t;(focus first|assumption|omega|rfl))|refine OpK.r rfl ?_|(apply Nm.r;focus repeat constructor)|fail)
     exact ⟨_, _, .one (.same (.nil (by (repeat first|exact .nil|refine .cons (by repeat constructor) ?_)))), _, rfl, rfl⟩
   ·exact PA.lp (i + 1) ⟨by repeat first|trivial|refine ⟨rfl,?_⟩,by repeat first|exact .nil|refine .cons (by repeat constructor) ?_⟩ ⟨hin, by omega⟩
  ·repeat' (first|refine Sp.h ?_|refine Lk.r rfl ?_|refine Rf.mk rfl ?_|(apply Bd.f;(focus first|assumption|omega|exact Bool.false_ne_true))|(refine Im.mk ?_;intro _)|(apply TkB.r;(focus repeat constructor))|(apply Nm.r;focus repeat constructor)|fail)
   exact ⟨_, _, .one (.same (.nil (by (repeat first|exact .nil|refine .cons (by repeat constructor) ?_)))), _, rfl, rfl⟩
end Go.Proofs.YtmllihbhphnolaaGreat
namespace Go.Proofs.YtmllihbhphnolaaGreat
open Go Go.CF
set_option maxRecDepth 20000
set_option maxHeartbeats 2000000 in
theorem hidden_c (m : ModS) (hm : LayOK m.sorts m.tables) : CallB Tryz.prog 161 [mdl m] := by
 have hml := hm.2.2.1
 refine CallA.of pg ord161 Tryz.func161 rfl Tryz.ntmps161 Tryz.results161 rfl fun h0 G0 O0 => ?_
 repeat' (first|refine Sp.h ?_|refine Lk.r rfl ?_|refine Rf.mk rfl ?_|(refine Bd.mk ?_ ?_ <;> intro _)|(refine Im.mk ?_;intro _)|(refine All.mk ?_;intro _)|(apply TkB.r;(focus repeat constructor))|(apply Nm.r;focus repeat constructor)|fail)
 all_goals try exact ⟨_, _, .one (.same (.nil (by (repeat first|exact .nil|refine .cons (by repeat constructor) ?_)))), _, rfl, rfl⟩
 rename_i b1 _ _
 refine CA.loop (fun i : Nat => ⟨[(1, .val (.pointer (some ⟨b1, 0, none⟩))), (3, it i)], [blkR b1 30 (modC m)]⟩) (fun i => i ≤ m.hides.length) (fun i => m.hides.length - i) 0 ⟨by repeat first|trivial|refine ⟨rfl,?_⟩,by repeat first|exact .nil|refine .cons (by repeat constructor) ?_⟩ (Nat.zero_le _) ?_
 intro i hi
 by_cases hin : i < m.hides.length
 ·obtain ⟨⟨ht, hcol, hto⟩, hh⟩ := get_of hin
  by_cases hb : 0 ≤ ht ∧ ht < m.tables.length ∧ 0 ≤ hto ∧ hto < m.tables.length
  ·obtain ⟨j1, rfl⟩ := Int.eq_ofNat_of_zero_le hb.1
   obtain ⟨j2, rfl⟩ := Int.eq_ofNat_of_zero_le hb.2.2.1
   obtain ⟨-, hb1, -, hb2⟩ := hb
   obtain ⟨t, htt⟩ := get_of (l := m.tables) (i := j1) (by omega)
   obtain ⟨u, huu⟩ := get_of (l := m.tables) (i := j2) (by omega)
   by_cases hc : 0 ≤ hcol ∧ hcol < t.cols.length ∧ u.cols.length = 1
   ·obtain ⟨j3, rfl⟩ := Int.eq_ofNat_of_zero_le hc.1
    obtain ⟨-, hc1, hc2⟩ := hc
    obtain ⟨x, hx⟩ := get_of (l := t.cols) (i := j3) (by omega)
    obtain ⟨y, hy⟩ := get_of (l := u.cols) (i := 0) (by omega)
    repeat' (first|refine Sp.h ?_|refine Lk.r rfl ?_|refine Rf.mk rfl ?_|(apply Bd.t;(focus first|assumption|omega|rfl))|(apply Bd.f;(focus first|assumption|omega|exact Bool.false_ne_true))|(refine Bd.mk ?_ ?_ <;> intro _)|refine OpK.r rfl ?_|(apply Om.mk;(focus first|omega|(simp <;> omega)))|(refine Im.mk ?_;intro _)|(refine All.mk ?_;intro _)|(apply TkB.r;(focus repeat constructor))|(apply Ix.q;(focus exact rfl);(focus assumption))|refine Ch.l ⟨rfl, rfl⟩ ?_|(apply SetAsk.r;(focus (repeat (first|exact SetAs.z|(apply SetAs.c;(focus (repeat first|assumption|constructor)))))))|(apply Nm.r;focus repeat constructor)|(apply CA.draw;(focus rfl);(focus kernel_rfl);(focus kernel_rfl);(focus repeat' constructor);(focus rfl))|exact trivial|(apply CA.drawF;(focus rfl);(focus kernel_rfl);(focus kernel_rfl);(focus repeat' constructor);(focus rfl);intro _n0 _hlt)|(apply NfK.lt;(focus first|assumption|omega|(apply _hlt;repeat constructor)))|apply RA'.both|(apply Ov.n;(focus first|omega|(simp <;> omega)))|fail)
    all_goals first
     | exact ⟨_, _, .one (.same (.nil (by (repeat first|exact .nil|refine .cons (by repeat constructor) ?_)))), _, rfl, rfl⟩
     | exact PA.lp (i + 1) ⟨by repeat first|trivial|refine ⟨rfl,?_⟩,by repeat first|exact .nil|refine .cons (by repeat constructor) ?_⟩ ⟨hin, by omega⟩
   ·repeat' (first|refine Sp.h ?_|refine Lk.r rfl ?_|refine Rf.mk rfl ?_|(apply Bd.t;(focus first|assumption|omega|rfl))|(apply Bd.f;(focus first|assumption|omega|exact Bool.false_ne_true))|(refine Bd.mk ?_ ?_ <;> intro _)|refine OpK.r rfl ?_|(apply Om.mk;(focus first|omega|(simp <;> omega)))|(refine Im.mk ?_;intro _)|(refine All.mk ?_;intro _)|(apply TkB.r;(focus repeat constructor))|(apply Ix.q;(focus exact rfl);(focus assumption))|refine Ch.l ⟨rfl, rfl⟩ ?_|(apply SetAsk.r;(focus (repeat (first|exact SetAs.z|(apply SetAs.c;(focus (repeat first|assumption|constructor)))))))|(apply Nm.r;focus repeat constructor)|(apply CA.draw;(focus rfl);(focus kernel_rfl);(focus kernel_rfl);(focus repeat' constructor);(focus rfl))|exact trivial|(apply CA.drawF;(focus rfl);(focus kernel_rfl);(focus kernel_rfl);(focus repeat' constructor);(focus rfl);intro _n0 _hlt)|(apply NfK.lt;(focus first|assumption|omega|(apply _hlt;repeat constructor)))|apply RA'.both|fail)
    all_goals first
     | exact ⟨_, _, .one (.same (.nil (by (repeat first|exact .nil|refine .cons (by repeat constructor) ?_)))), _, rfl, rfl⟩
     | exact (hc ⟨by omega, by omega, by omega⟩).elim
  ·repeat' (first|refine Sp.h ?_|refine Lk.r rfl ?_|refine Rf.mk rfl ?_|(apply Bd.t;(focus first|assumption|omega|rfl))|(apply Bd.f;(focus first|assumption|omega|exact Bool.false_ne_true))|(refine Bd.mk ?_ ?_ <;> intro _)|(refine Im.mk ?_;intro _)|(refine All.mk ?_;intro _)|(apply TkB.r;(focus repeat constructor))|(apply Ix.q;(focus exact rfl);(focus assumption))|refine Ch.l ⟨rfl, rfl⟩ ?_|(apply SetAsk.r;(focus (repeat (first|exact SetAs.z|(apply SetAs.c;(focus (repeat first|assumption|constructor)))))))|(apply Nm.r;focus repeat constructor)|fail)
   all_goals first
    | exact ⟨_, _, .one (.same (.nil (by (repeat first|exact .nil|refine .cons (by repeat constructor) ?_)))), _, rfl, rfl⟩
    | exact (hb ⟨by omega, by omega, by omega, by omega⟩).elim
 ·repeat' (first|refine Sp.h ?_|refine Lk.r rfl ?_|refine Rf.mk rfl ?_|(apply Bd.f;(focus first|assumption|omega|exact Bool.false_ne_true))|(refine Im.mk ?_;intro _)|(apply TkB.r;(focus repeat constructor))|fail)
  refine CA.loop (fun i : Nat => ⟨[(1, .val (.pointer (some ⟨b1, 0, none⟩))), (7, it i)], [blkR b1 30 (modC m)]⟩) (fun i => i ≤ m.hides.length) (fun i => m.hides.length - i) 0 ⟨by repeat first|trivial|refine ⟨rfl,?_⟩,by repeat first|exact .nil|refine .cons (by repeat constructor) ?_⟩ (Nat.zero_le _) ?_
  intro i hi
  by_cases hin : i < m.hides.length
  ·obtain ⟨⟨h1, h2, h3⟩, hh⟩ := get_of hin
   have hld := leads_c m m.tables.length (by omega) h3 h1
   repeat' (first|refine Sp.h ?_|refine Lk.r rfl ?_|refine Rf.mk rfl ?_|(apply Bd.t;(focus first|assumption|omega|rfl))|refine OpK.r rfl ?_|(refine Im.mk ?_;intro _)|(apply TkB.r;(focus repeat constructor))|(apply Ix.q;(focus exact rfl);(focus assumption))|refine Ch.l ⟨rfl, rfl⟩ ?_|(apply CA.draw;(focus rfl);(focus kernel_rfl);(focus kernel_rfl);(focus repeat' constructor);(focus rfl))|fail)
   (apply Cl.use (hld);(focus repeat' (first|exact Lend.nil|apply Lend.keep|fail));(focus (repeat (first|exact Takes.nil|(apply Takes.cons;(focus repeat constructor)))));(focus rfl))
   rintro _ _ ⟨x, rfl, rfl⟩
   cases x
   ·repeat' (first|refine Sp.h ?_|refine Lk.r rfl ?_|refine Rf.mk rfl ?_|(apply Ov.n;(focus first|omega|(simp <;> omega)))|fail)
    exact PA.lp (i + 1) ⟨by repeat first|trivial|refine ⟨rfl,?_⟩,by repeat first|exact .nil|refine .cons (by repeat constructor) ?_⟩ ⟨hin, by omega⟩
   ·repeat' (first|refine Sp.h ?_|refine Lk.r rfl ?_|refine Rf.mk rfl ?_|(apply Nm.r;focus repeat constructor)|fail)
    exact ⟨_, _, .one (.same (.nil (by (repeat first|exact .nil|refine .cons (by repeat constructor) ?_)))), _, rfl, rfl⟩
  ·repeat' (first|refine Sp.h ?_|refine Lk.r rfl ?_|refine Rf.mk rfl ?_|(apply Bd.f;(focus first|assumption|omega|exact Bool.false_ne_true))|(refine Im.mk ?_;intro _)|(apply TkB.r;(focus repeat constructor))|(apply Nm.r;focus repeat constructor)|fail)
   exact ⟨_, _, .one (.same (.nil (by (repeat first|exact .nil|refine .cons (by repeat constructor) ?_)))), _, rfl, rfl⟩
end Go.Proofs.YtmllihbhphnolaaGreat
namespace Go.Proofs.YtmllihbhphnolaaGreat
open Go Go.CF
set_option maxRecDepth 20000
theorem col_get {sizes cols : List Int} (h : ColOK sizes cols) {i : Nat} {x : Int} (hx : cols[i]? = some x) : ∃ j : Nat, x = (j : Int) ∧ ∃ y, sizes[j]? = some y ∧ 1 ≤ y ∧ y ≤ 6 := by
 obtain ⟨h1, h2⟩ := h.2.2 x (List.mem_of_getElem? hx)
 obtain ⟨j, rfl⟩ := Int.eq_ofNat_of_zero_le h1
 obtain ⟨y, hy⟩ := get_of (l := sizes) (i := j) (by omega)
 exact ⟨j, rfl, y, hy, h.2.1 y (List.mem_of_getElem? hy)⟩
theorem nth_c (sizes cols : List Int) (k : Int) (h : ColOK sizes cols) (hk : 0 ≤ k ∧ k ≤ 1000) : CallA Tryz.prog 290 [ints sizes, ints cols, it k] [] fun r own => ∃ l, r = ints l ∧ own = [] := by
 have hl := h.1
 refine CallA.of pg ord290 Tryz.func290 rfl Tryz.ntmps290 Tryz.results290 rfl fun h0 G0 O0 => ?_
 repeat' (first|refine Sp.h ?_|refine Lk.r rfl ?_|refine Rf.mk rfl ?_|(refine Im.mk ?_;intro _)|(refine All.mk ?_;intro _)|(apply Nm.r;focus repeat constructor)|refine Rf.mk ⟨rfl, rfl, rfl⟩ ?_|(apply Jx.r;(focus exact rfl);(focus first|omega|(simp;done)|(simp;omega)))|refine MkS.r intC 0 rfl ?_|(apply Ov.n;(focus first|omega|(simp <;> omega)))|fail)
 rename_i v _
 refine CA.loop (fun x : Nat × Int × List Int => ⟨[(0, ints sizes), (1, ints cols), (2, it x.2.1), (7, .ow v), (8, it ((x.1 : Int) - 1))], [arrR v 3 1 x.2.2 intC]⟩) (fun x => x.1 ≤ cols.length ∧ 0 ≤ x.2.1 ∧ x.2.1 ≤ 1000 ∧ x.2.2.length = cols.length) (fun x => x.1) (cols.length, k, List.replicate cols.length 0) ⟨by repeat first|trivial|refine ⟨rfl,?_⟩,by repeat first|exact .nil|refine .cons (by repeat constructor) ?_⟩ ⟨Nat.le_refl _, hk.1, hk.2, by simp⟩ ?_
 rintro ⟨i, k, l⟩ ⟨hi, hk1, hk2, hll⟩
 simp only at hi hk1 hk2 hll
 simp only
 cases i with
 | zero =>
  repeat' (first|refine Sp.h ?_|refine Lk.r rfl ?_|refine Rf.mk rfl ?_|(apply Bd.f;(focus first|assumption|omega|exact Bool.false_ne_true))|(apply Nm.r;focus repeat constructor)|fail)
  exact ⟨_, _, .one (.fz (by repeat constructor) (by omega) (.nil (by (repeat first|exact .nil|refine .cons (by repeat constructor) ?_)))), l, rfl, rfl⟩
 | succ i =>
  obtain ⟨x, hx⟩ := get_of (l := cols) (i := i) (by omega)
  obtain ⟨j, rfl, y, hy, hy1, hy2⟩ := col_get h hx
  obtain ⟨z, hz⟩ := get_of (l := l) (i := i) (by omega)
  have e : (((i + 1 : Nat) : Int) - 1) = (i : Int) := by omega
  rw [e]
  repeat' (first|refine Sp.h ?_|refine Lk.r rfl ?_|refine Rf.mk rfl ?_|(apply Bd.t;(focus first|assumption|omega|rfl))|(apply Om.mk;(focus first|omega|(simp <;> omega)))|(apply TkA.r;(focus repeat constructor))|(apply Ix.q;(focus exact rfl);(focus assumption))|(apply At.r;(focus assumption))|(apply SetAk.r;(focus (repeat first|assumption|constructor)))|refine Up.r rfl ?_|(apply Ov.n;(focus first|omega|(simp <;> omega)))|fail)
  have hq0 : 0 ≤ k / y := Int.ediv_nonneg hk1 (by omega)
  have hq1 : k / y ≤ k := Int.ediv_le_self _ hk1
  exact PA.lp (i, k / y, _) ⟨by repeat first|trivial|refine ⟨rfl,?_⟩,by repeat first|exact .nil|refine .cons (by repeat constructor) ?_⟩ ⟨⟨by simp only;omega, hq0, by simp only;omega, by simp only [List.length_set];exact hll⟩, by simp only;omega⟩
set_option maxHeartbeats 1000000 in
theorem tuple_c (sizes : List Int) (l : List TblS) (s : Bool) (cell : Int) : CallA Tryz.prog 273 [ints sizes, tbls l, .val (.bool s), it cell] [] fun r own => ∃ (i : Nat) (q : List Int) (b : Bool), r = .tup [it i, ints q, .val (.bool b)] ∧ own = [] ∧ (b = true → i < l.length) := by
 refine CallA.of pg ord273 Tryz.func273 rfl Tryz.ntmps273 Tryz.results273 rfl fun h0 G0 O0 => ?_
 repeat' (first|refine Sp.h ?_|refine Lk.r rfl ?_|refine Rf.mk rfl ?_|fail)
 (apply Cl.use (valid9_c sizes l);(focus repeat' (first|exact Lend.nil|apply Lend.keep|fail));(focus (repeat (first|exact Takes.nil|(apply Takes.cons;(focus repeat constructor)))));(focus rfl))
 rintro _ _ ⟨b, rfl, rfl, hv⟩
 cases b
 ·repeat' (first|refine Sp.h ?_|refine Lk.r rfl ?_|refine Rf.mk rfl ?_|(apply Bd.f;(focus first|assumption|omega|exact Bool.false_ne_true))|(apply Nm.r;focus repeat constructor)|fail)
  exact ⟨_, _, .tup (.same (.nilr (.same (.nil (by (repeat first|exact .nil|refine .cons (by repeat constructor) ?_)))))), 0, [], false, rfl, rfl, fun h => by cases h⟩
 obtain ⟨h1, h2, h3, h4⟩ := hv rfl
 repeat' (first|refine Sp.h ?_|refine Lk.r rfl ?_|refine Rf.mk rfl ?_|(apply Bd.t;(focus first|assumption|omega|rfl))|fail)
 refine CA.loop (fun i : Nat => ⟨[(0, ints sizes), (1, tbls l), (2, .val (.bool s)), (3, it cell), (11, it i)], []⟩) (fun i => i ≤ l.length) (fun i => l.length - i) 0 ⟨by repeat first|trivial|refine ⟨rfl,?_⟩,by repeat first|exact .nil|refine .cons (by repeat constructor) ?_⟩ (Nat.zero_le _) ?_
 intro i hi
 by_cases hin : i < l.length
 ·obtain ⟨t, ht⟩ := get_of hin
  have hT := h4 t (List.mem_of_getElem? ht)
  have hn := num_le sizes t.cols
  repeat' (first|refine Sp.h ?_|refine Lk.r rfl ?_|refine Rf.mk rfl ?_|(apply Bd.t;(focus first|assumption|omega|rfl))|(refine Im.mk ?_;intro _)|(apply Ix.q;(focus exact rfl);(focus assumption))|fail)
  apply Ov.w
  intro r _ _ _
  by_cases hk : 0 ≤ r ∧ r < numF sizes t.cols
  ·have hnt := nth_c sizes t.cols r hT.1 (by omega)
   repeat' (first|refine Sp.h ?_|refine Lk.r rfl ?_|refine Rf.mk rfl ?_|(apply Bd.t;(focus first|assumption|omega|rfl))|(apply Bd.f;(focus first|assumption|omega|exact Bool.false_ne_true))|(refine Bd.mk ?_ ?_ <;> intro _)|(apply Ix.q;(focus exact rfl);(focus assumption))|(apply Ov.n;(focus first|omega|(simp <;> omega)))|(apply Cl.p (strict9_p _);(focus repeat' (first|exact Lend.nil|apply Lend.keep|fail)))|(apply Cl.p (number_p _ _);(focus repeat' (first|exact Lend.nil|apply Lend.keep|fail))))
   all_goals try exact PA.lp (i + 1) ⟨by repeat first|trivial|refine ⟨rfl,?_⟩,by repeat first|exact .nil|refine .cons (by repeat constructor) ?_⟩ ⟨hin, by omega⟩
   all_goals (apply Cl.use (hnt);(focus repeat' (first|exact Lend.nil|apply Lend.keep|fail));(focus (repeat (first|exact Takes.nil|(apply Takes.cons;(focus repeat constructor)))));(focus rfl))
   all_goals rintro _ _ ⟨q, rfl, rfl⟩
   all_goals repeat' (first|refine Sp.h ?_|refine Lk.r rfl ?_|(apply Nm.r;focus repeat constructor)|fail)
   all_goals exact ⟨_, _, .tup (.same (.same (.same (.nil (by (repeat first|exact .nil|refine .cons (by repeat constructor) ?_)))))), i, q, true, rfl, rfl, fun _ => hin⟩
  ·repeat' (first|refine Sp.h ?_|refine Lk.r rfl ?_|refine Rf.mk rfl ?_|(apply Bd.t;(focus first|assumption|omega|rfl))|(apply Bd.f;(focus first|assumption|omega|exact Bool.false_ne_true))|(refine Bd.mk ?_ ?_ <;> intro _)|(apply Ix.q;(focus exact rfl);(focus assumption))|(apply Ov.n;(focus first|omega|(simp <;> omega)))|(apply Cl.p (strict9_p _);(focus repeat' (first|exact Lend.nil|apply Lend.keep|fail)))|(apply Cl.p (number_p _ _);(focus repeat' (first|exact Lend.nil|apply Lend.keep|fail))))
   all_goals first
    | exact PA.lp (i + 1) ⟨by repeat first|trivial|refine ⟨rfl,?_⟩,by repeat first|exact .nil|refine .cons (by repeat constructor) ?_⟩ ⟨hin, by omega⟩
    | exact (hk ⟨by omega, by omega⟩).elim
 ·repeat' (first|refine Sp.h ?_|refine Lk.r rfl ?_|refine Rf.mk rfl ?_|(apply Bd.f;(focus first|assumption|omega|exact Bool.false_ne_true))|(refine Im.mk ?_;intro _)|(apply Nm.r;focus repeat constructor)|fail)
  exact ⟨_, _, .tup (.same (.nilr (.same (.nil (by (repeat first|exact .nil|refine .cons (by repeat constructor) ?_)))))), 0, [], false, rfl, rfl, fun h => by cases h⟩
def isSet13 (k : Int) : Prop := k = 2 ∨ k = 3
noncomputable instance (k : Int) : Decidable (isSet13 k) := Classical.propDecidable _
theorem set13_p (k : Int) : CallP Tryz.prog 274 [it k] (.val (.bool (decide (isSet13 k)))) := by
 refine CallA.of pg ord274 Tryz.func274 rfl Tryz.ntmps274 Tryz.results274 rfl fun h0 G0 O0 => ?_
 repeat' (first|refine Sp.h ?_|refine Lk.r rfl ?_|refine Rf.mk rfl ?_|(apply Bd.t;(focus first|assumption|omega|rfl))|(apply Bd.f;(focus first|assumption|omega|exact Bool.false_ne_true))|(refine Bd.mk ?_ ?_ <;> intro _)|(apply Nm.r;focus repeat constructor)|fail)
 all_goals refine Fin.p rfl (vb ?_)
 all_goals first
  | exact decide_eq_decide.2 (by unfold isSet13;omega)
  | exact (decide_eq_true (by unfold isSet13;omega)).symm
set_option maxHeartbeats 4000000 in
theorem effect_c (m : ModS) (x : EffS) : CallB Tryz.prog 240 [mdl m, .agg (effC x)] := by
 have hb := fun p : Int × Int => between13_p p.2 1000000000 (by omega)
 refine CallA.of pg ord240 Tryz.func240 rfl Tryz.ntmps240 Tryz.results240 rfl fun h0 G0 O0 => ?_
 repeat' (first|refine Sp.h ?_|refine Lk.r rfl ?_|refine Rf.mk rfl ?_|(refine All.mk ?_;intro _)|(apply TkB.r;(focus repeat constructor))|refine Ch.l ⟨rfl, rfl⟩ ?_|fail)
 (apply Cl.use (strict13_c m);(focus repeat' (first|exact Lend.nil|apply Lend.keep|fail));(focus (repeat (first|exact Takes.nil|(apply Takes.cons;(focus repeat constructor)))));(focus rfl))
 rintro _ _ ⟨rs, rfl, rfl, hr1, hr2⟩
 repeat' (first|refine Sp.h ?_|refine Lk.r rfl ?_|refine Rf.mk rfl ?_|(refine Im.mk ?_;intro _)|fail)
 rename_i b2 b3 _
 refine CA.loop (fun i : Nat => ⟨[(2, .val (.pointer (some ⟨b2, 0, none⟩))), (3, .val (.pointer (some ⟨b3, 0, none⟩))), (5, it (rs.length : Nat)), (6, it i)], [blkR b3 149 (effC x), blkR b2 30 (modC m)]⟩) (fun i => i ≤ x.delta.length) (fun i => x.delta.length - i) 0 ⟨by repeat first|trivial|refine ⟨rfl,?_⟩,by repeat first|exact .nil|refine .cons (by repeat constructor) ?_⟩ (Nat.zero_le _) ?_
 intro i hi
 by_cases hin : i < x.delta.length
 ·obtain ⟨p, hp⟩ := get_of hin
  have hbp := hb p
  rcases Nat.eq_zero_or_pos i with h0|h0
  ·subst h0
   repeat' (first|refine Sp.h ?_|refine Lk.r rfl ?_|refine Rf.mk rfl ?_|(apply Bd.t;(focus first|assumption|omega|rfl))|(apply Bd.f;(focus first|assumption|omega|exact Bool.false_ne_true))|(refine Bd.mk ?_ ?_ <;> intro _)|refine OpK.r rfl ?_|(refine Im.mk ?_;intro _)|(refine All.mk ?_;intro _)|(apply TkB.r;(focus repeat constructor))|(apply Ix.q;(focus exact rfl);(focus assumption))|refine Ch.l ⟨rfl, rfl⟩ ?_|(apply SetAsk.r;(focus (repeat (first|exact SetAs.z|(apply SetAs.c;(focus (repeat first|assumption|constructor)))))))|(apply Nm.r;focus repeat constructor)|(apply CA.draw;(focus rfl);(focus kernel_rfl);(focus kernel_rfl);(focus repeat' constructor);(focus rfl))|(apply Ov.n;(focus first|omega|(simp <;> omega)))|(apply Cl.p (hbp);(focus repeat' (first|exact Lend.nil|apply Lend.keep|fail))))
   all_goals first
    | exact ⟨_, _, .one (.same (.nil (by (repeat first|exact .nil|refine .cons (by repeat constructor) ?_)))), _, rfl, rfl⟩
    | exact PA.lp 1 ⟨by repeat first|trivial|refine ⟨rfl,?_⟩,by repeat first|exact .nil|refine .cons (by repeat constructor) ?_⟩ ⟨hin, by omega⟩
  ·obtain ⟨k, rfl⟩ : ∃ k, i = k + 1 := ⟨i - 1, by omega⟩
   obtain ⟨q, hq⟩ := get_of (l := x.delta) (i := k) (by omega)
   repeat' (first|refine Sp.h ?_|refine Lk.r rfl ?_|refine Rf.mk rfl ?_|(apply Bd.t;(focus first|assumption|omega|rfl))|(apply Bd.f;(focus first|assumption|omega|exact Bool.false_ne_true))|(refine Bd.mk ?_ ?_ <;> intro _)|refine OpK.r rfl ?_|(refine Im.mk ?_;intro _)|(refine All.mk ?_;intro _)|(apply TkB.r;(focus repeat constructor))|(apply Ix.q;(focus exact rfl);(focus assumption))|(apply Ix.r;(focus assumption);(focus omega))|refine Ch.l ⟨rfl, rfl⟩ ?_|(apply SetAsk.r;(focus (repeat (first|exact SetAs.z|(apply SetAs.c;(focus (repeat first|assumption|constructor)))))))|(apply Nm.r;focus repeat constructor)|(apply CA.draw;(focus rfl);(focus kernel_rfl);(focus kernel_rfl);(focus repeat' constructor);(focus rfl))|(apply Ov.n;(focus first|omega|(simp <;> omega)))|(apply Cl.p (hbp);(focus repeat' (first|exact Lend.nil|apply Lend.keep|fail))))
   all_goals first
    | exact ⟨_, _, .one (.same (.nil (by (repeat first|exact .nil|refine .cons (by repeat constructor) ?_)))), _, rfl, rfl⟩
    | exact PA.lp (k + 1 + 1) ⟨by repeat first|trivial|refine ⟨rfl,?_⟩,by repeat first|exact .nil|refine .cons (by repeat constructor) ?_⟩ ⟨hin, by omega⟩
 repeat' (first|refine Sp.h ?_|refine Lk.r rfl ?_|refine Rf.mk rfl ?_|(apply Bd.f;(focus first|assumption|omega|exact Bool.false_ne_true))|(refine Im.mk ?_;intro _)|(apply TkB.r;(focus repeat constructor))|fail)
 refine CA.loop (fun i : Nat => ⟨[(2, .val (.pointer (some ⟨b2, 0, none⟩))), (3, .val (.pointer (some ⟨b3, 0, none⟩))), (5, it (rs.length : Nat)), (8, it i)], [blkR b3 149 (effC x), blkR b2 30 (modC m)]⟩) (fun i => i ≤ x.hold.length) (fun i => x.hold.length - i) 0 ⟨by repeat first|trivial|refine ⟨rfl,?_⟩,by repeat first|exact .nil|refine .cons (by repeat constructor) ?_⟩ (Nat.zero_le _) ?_
 intro i hi
 by_cases hin : i < x.hold.length
 ·obtain ⟨r, hr⟩ := get_of hin
  have hrow := row_c r (rs.length : Nat)
  repeat' (first|refine Sp.h ?_|refine Lk.r rfl ?_|refine Rf.mk rfl ?_|(apply Bd.t;(focus first|assumption|omega|rfl))|(refine Im.mk ?_;intro _)|(apply TkB.r;(focus repeat constructor))|(apply Ix.q;(focus exact rfl);(focus assumption))|refine Ch.l ⟨rfl, rfl⟩ ?_|fail)
  (apply Cl.use (hrow);(focus repeat' (first|exact Lend.nil|apply Lend.keep|fail));(focus (repeat (first|exact Takes.nil|(apply Takes.cons;(focus repeat constructor)))));(focus rfl))
  rintro _ _ ⟨b, rfl, rfl, -⟩
  cases b
  ·repeat' (first|refine Sp.h ?_|refine Lk.r rfl ?_|refine Rf.mk rfl ?_|(apply Bd.f;(focus first|assumption|omega|exact Bool.false_ne_true))|(apply Nm.r;focus repeat constructor)|fail)
   exact ⟨_, _, .one (.same (.nil (by (repeat first|exact .nil|refine .cons (by repeat constructor) ?_)))), _, rfl, rfl⟩
  ·repeat' (first|refine Sp.h ?_|refine Lk.r rfl ?_|refine Rf.mk rfl ?_|(apply Bd.t;(focus first|assumption|omega|rfl))|(apply Ov.n;(focus first|omega|(simp <;> omega)))|fail)
   exact PA.lp (i + 1) ⟨by repeat first|trivial|refine ⟨rfl,?_⟩,by repeat first|exact .nil|refine .cons (by repeat constructor) ?_⟩ ⟨hin, by omega⟩
 repeat' (first|refine Sp.h ?_|refine Lk.r rfl ?_|refine Rf.mk rfl ?_|(apply Bd.f;(focus first|assumption|omega|exact Bool.false_ne_true))|(refine Im.mk ?_;intro _)|(apply TkB.r;(focus repeat constructor))|fail)
 refine CA.loop (fun i : Nat => ⟨[(2, .val (.pointer (some ⟨b2, 0, none⟩))), (3, .val (.pointer (some ⟨b3, 0, none⟩))), (9, it i)], [blkR b3 149 (effC x), blkR b2 30 (modC m)]⟩) (fun i => i ≤ x.updates.length) (fun i => x.updates.length - i) 0 ⟨by repeat first|trivial|refine ⟨rfl,?_⟩,by repeat first|exact .nil|refine .cons (by repeat constructor) ?_⟩ (Nat.zero_le _) ?_
 intro i hi
 by_cases hin : i < x.updates.length
 ·obtain ⟨⟨uk, uc, uv⟩, hu⟩ := get_of hin
  repeat' (first|refine Sp.h ?_|refine Lk.r rfl ?_|refine Rf.mk rfl ?_|(apply Bd.t;(focus first|assumption|omega|rfl))|(refine Im.mk ?_;intro _)|(refine All.mk ?_;intro _)|(apply TkB.r;(focus repeat constructor))|(apply Ix.q;(focus exact rfl);(focus assumption))|refine Ch.l ⟨rfl, rfl⟩ ?_|(apply SetAsk.r;(focus (repeat (first|exact SetAs.z|(apply SetAs.c;(focus (repeat first|assumption|constructor)))))))|(apply Nm.r;focus repeat constructor)|fail)
  (apply Cl.use (tuple_c _ _ _ _);(focus repeat' (first|exact Lend.nil|apply Lend.keep|fail));(focus (repeat (first|exact Takes.nil|(apply Takes.cons;(focus repeat constructor)))));(focus rfl))
  rintro _ _ ⟨ti, q, b, rfl, rfl, hti⟩
  cases b
  ·repeat' (first|refine Sp.h ?_|refine Lk.r rfl ?_|refine Rf.mk rfl ?_|(apply Bd.f;(focus first|assumption|omega|exact Bool.false_ne_true))|refine OpK.r rfl ?_|(apply Nm.r;focus repeat constructor)|(apply CA.draw;(focus rfl);(focus kernel_rfl);(focus kernel_rfl);(focus repeat' constructor);(focus rfl))|fail)
   exact ⟨_, _, .one (.same (.nil (by (repeat first|exact .nil|refine .cons (by repeat constructor) ?_)))), _, rfl, rfl⟩
  have hti := hti rfl
  obtain ⟨t, ht⟩ := get_of hti
  rcases Nat.eq_zero_or_pos i with h0|h0
  ·subst h0
   repeat' (first|refine Sp.h ?_|refine Lk.r rfl ?_|refine Rf.mk rfl ?_|(apply Bd.t;(focus first|assumption|omega|rfl))|(apply Bd.f;(focus first|assumption|omega|exact Bool.false_ne_true))|(refine Bd.mk ?_ ?_ <;> intro _)|refine OpK.r rfl ?_|(refine All.mk ?_;intro _)|(apply TkB.r;(focus repeat constructor))|(apply Ix.q;(focus exact rfl);(focus assumption))|refine Ch.l ⟨rfl, rfl⟩ ?_|(apply SetAsk.r;(focus (repeat (first|exact SetAs.z|(apply SetAs.c;(focus (repeat first|assumption|constructor)))))))|(apply Nm.r;focus repeat constructor)|(apply CA.draw;(focus rfl);(focus kernel_rfl);(focus kernel_rfl);(focus repeat' constructor);(focus rfl))|(apply Ov.n;(focus first|omega|(simp <;> omega)))|(apply Cl.p (set13_p _);(focus repeat' (first|exact Lend.nil|apply Lend.keep|fail))))
   all_goals first
    | exact ⟨_, _, .one (.same (.nil (by (repeat first|exact .nil|refine .cons (by repeat constructor) ?_)))), _, rfl, rfl⟩
    | exact PA.lp 1 ⟨by repeat first|trivial|refine ⟨rfl,?_⟩,by repeat first|exact .nil|refine .cons (by repeat constructor) ?_⟩ ⟨hin, by omega⟩
  ·obtain ⟨k, rfl⟩ : ∃ k, i = k + 1 := ⟨i - 1, by omega⟩
   obtain ⟨⟨wk, wc, wv⟩, hw⟩ := get_of (l := x.updates) (i := k) (by omega)
   repeat' (first|refine Sp.h ?_|refine Lk.r rfl ?_|refine Rf.mk rfl ?_|(apply Bd.t;(focus first|assumption|omega|rfl))|(apply Bd.f;(focus first|assumption|omega|exact Bool.false_ne_true))|(refine Bd.mk ?_ ?_ <;> intro _)|refine OpK.r rfl ?_|(refine All.mk ?_;intro _)|(apply TkB.r;(focus repeat constructor))|(apply Ix.q;(focus exact rfl);(focus assumption))|(apply Ix.r;(focus assumption);(focus omega))|refine Ch.l ⟨rfl, rfl⟩ ?_|(apply SetAsk.r;(focus (repeat (first|exact SetAs.z|(apply SetAs.c;(focus (repeat first|assumption|constructor)))))))|(apply Nm.r;focus repeat constructor)|(apply CA.draw;(focus rfl);(focus kernel_rfl);(focus kernel_rfl);(focus repeat' constructor);(focus rfl))|(apply Ov.n;(focus first|omega|(simp <;> omega)))|(apply Cl.p (set13_p _);(focus repeat' (first|exact Lend.nil|apply Lend.keep|fail))))
   all_goals first
    | exact ⟨_, _, .one (.same (.nil (by (repeat first|exact .nil|refine .cons (by repeat constructor) ?_)))), _, rfl, rfl⟩
    | exact PA.lp (k + 1 + 1) ⟨by repeat first|trivial|refine ⟨rfl,?_⟩,by repeat first|exact .nil|refine .cons (by repeat constructor) ?_⟩ ⟨hin, by omega⟩
 repeat' (first|refine Sp.h ?_|refine Lk.r rfl ?_|refine Rf.mk rfl ?_|(apply Bd.t;(focus first|assumption|omega|rfl))|(apply Bd.f;(focus first|assumption|omega|exact Bool.false_ne_true))|(refine Bd.mk ?_ ?_ <;> intro _)|(refine Im.mk ?_;intro _)|(apply TkB.r;(focus repeat constructor))|(apply Nm.r;focus repeat constructor)|fail)
 all_goals exact ⟨_, _, .one (.same (.nil (by (repeat first|exact .nil|refine .cons (by repeat constructor) ?_)))), _, rfl, rfl⟩
end Go.Proofs.YtmllihbhphnolaaGreat
