/- Part 9 of the ground of this proof: what its texts say of the model, the program and the plain data; conditions: those that are named. -/
import Derived.Test.YtmllihbhphnolaaGreatP08
namespace Go.Proofs.YtmllihbhphnolaaGreat
open Go Go.CF
set_option maxRecDepth 20000
theorem ovF_mark : OvF Tryz.prog 292 121 :=
 ⟨_, 4, Tryz.func292, by kernel_rfl, by kernel_rfl, by kernel_rfl, by kernel_rfl⟩
instance (priority := 2000) {T : Nat → Ord × (Nat → Cls)} {n : Nat} {rs : Array ResultVar} {K : AV → List Res → Prop} {h0 : Heap} {G0 O0 : Nat → Prop} {d : Tmp} {x y : Operand} {tys : Array TypeId} {ty : TypeId} {e : EA} {o : List Res} {N : NA} :
  Sp (SA ⟨Tryz.prog, tt, en, pg, T, n, rs, K, h0, G0, O0, ⟨none⟩⟩ .loud (some d) (.call { callee := .value (.func 292), args := #[x, y], argTypes := tys }) ty e o N)
   (Lk (evA e x) fun a => Lk (evA e y) fun b => Ovl o a b (N ((d, .val (.bool false)) :: e) o)) := ⟨fun h => SA.ovl ovF_mark (tS := 121) rfl rfl h⟩
theorem ins_eq {α : Type} {L : List α} {r : α} {i : Nat} (hi : i < L.length) (a b c : Nat) (ha : a = L.length - i) (hb : b = 1) (hc : c = 1) :
  (L.take (i + c) ++ (L.drop i).take a).take i ++ [r].take b ++ (L.take (i + c) ++ (L.drop i).take a).drop (i + b) = L.take i ++ r :: L.drop i := by
 subst ha;subst hb;subst hc
 have h1 : (L.drop i).take (L.length - i) = L.drop i := List.take_of_length_le (by simp)
 have h2 : (L.take (i + 1)).length = i + 1 := by simp;omega
 rw [h1, List.take_append_of_le_length (by omega), List.take_take, Nat.min_eq_left (by omega), List.drop_append_of_le_length (by omega), List.drop_of_length_le (by omega)]
 simp
theorem ins_eq2 {α : Type} {L : List α} {r : α} {i : Nat} (hi : i < L.length) (a b c d e g : Nat) (hg : g = i) (he : e = 1) (hd : d = L.length - i) (hb : b = L.length - i) (ha : a = i) (hc : c = 1) :
  (((L.take g).take a ++ [r].take e).take (i + c) ++ ((L.drop i).take d).take b) = L.take i ++ r :: L.drop i := by
 subst ha;subst hb;subst hc;subst hd;subst he;subst hg
 have h1 : (L.drop g).take (L.length - g) = L.drop g := List.take_of_length_le (by simp)
 rw [h1, h1, List.take_take, Nat.min_self, List.take_of_length_le (l := List.take g L ++ List.take 1 [r]) (by simp;omega)]
 simp
set_option maxHeartbeats 1000000 in
theorem insertV_a (w u : Value) (L : List (List Value)) (r : List Value) (i : Nat) (hi : i ≤ L.length) (hl : L.length ≤ 1000000) :
  CallA Tryz.prog 284 [.ow w, it i, .ow u] [arrR w 125 4 L valR, arrR u 125 4 [r] valR] fun q own => ∃ w', q = .ow w' ∧ own = [arrR w' 125 4 (L.take i ++ r :: L.drop i) valR] := by
 refine CallA.of pg ord284 Tryz.func284 rfl Tryz.ntmps284 Tryz.results284 rfl fun h0 G0 O0 => ?_
 have h1r : ([r] : List (List Value)).length = 1 := rfl
 by_cases hin : i = L.length
 ·subst hin
  rw [List.take_length, List.drop_length]
  repeat' (first|refine Sp.h ?_|refine Lk.r rfl ?_|refine Rf.mk rfl ?_|(apply Bd.t;(focus first|assumption|omega|rfl))|(apply Bd.f;(focus first|assumption|omega|exact Bool.false_ne_true))|(apply Om.mk;(focus first|omega|(simp <;> omega)))|(refine All.mk ?_;intro _)|(apply TkA.r;(focus repeat constructor))|refine Ce.r ?_|(apply Nm.r;focus repeat constructor)|refine Rf.mk ⟨rfl, rfl⟩ ?_|(apply Jx.r;(focus exact rfl);(focus first|omega|(simp;done)|(simp;omega)))|refine Mp.same ?_|fail)
  exact ⟨_, _, .one (.same (.nil (by (repeat first|exact .nil|refine .cons (by repeat constructor) ?_)))), _, rfl, rfl⟩
 have hin : i < L.length := by omega
 by_cases hc : capV w < L.length + 1
 ·repeat' (first|refine Sp.h ?_|refine Lk.r rfl ?_|refine Rf.mk rfl ?_|(apply Bd.t;(focus first|assumption|omega|rfl))|(apply Bd.f;(focus first|assumption|omega|exact Bool.false_ne_true))|(refine Im.mk ?_;intro _)|(apply TkA.r;(focus repeat constructor))|refine Rf.mk ⟨rfl, rfl⟩ ?_|refine Rf.mk ⟨rfl, rfl, rfl⟩ ?_|(apply Jx.r;(focus exact rfl);(focus first|omega|(simp;done)|(simp;omega)))|refine Mp.same ?_|(apply Ov.n;(focus first|omega|(simp <;> omega)))|fail)
  refine Jx.r (j := L.length + [r].length - i) (by omega) (by omega) ?_
  (repeat' (first|(show CA _ _ (Code.region 12 _ _) _ _;apply Stopped.out)|refine Sp.h ?_|refine Lk.r rfl ?_|refine Rf.mk rfl ?_|refine OpK.r rfl ?_|(apply Om.mk;(focus first|omega|(simp <;> omega)))|(refine All.mk ?_;intro _)|(apply TkA.r;(focus repeat constructor))|refine Rf.mk ⟨rfl, rfl⟩ ?_|refine Rf.mk ⟨rfl, rfl, rfl⟩ ?_|(apply Jx.r;(focus exact rfl);(focus first|omega|(simp;done)|(simp;omega)))|refine Mp.same ?_|(apply CA.draw;(focus rfl);(focus kernel_rfl);(focus kernel_rfl);(focus repeat' constructor);(focus rfl))|(apply Ov.n;(focus first|omega|(simp <;> omega)))|(apply CpS.part;(focus (repeat constructor;done)))|(apply TkX.r;(focus repeat constructor))|fail));any_goals apply Stopped.mk
  apply CA.ofX 9
  focus rfl
  focus (repeat constructor)
  focus (simp;omega)
  repeat' (first|refine Sp.h ?_|refine Lk.r rfl ?_|refine Rf.mk rfl ?_|(apply Nm.r;focus repeat constructor)|fail)
  rw [ins_eq2 hin _ _ _ _ _ _ (by omega) (by omega) (by omega) (by simp;omega) (by omega) h1r]
  exact ⟨_, _, .one (.same (.nil (by (repeat first|exact .nil|refine .cons (by repeat constructor) ?_)))), _, rfl, rfl⟩
 ·(repeat' (first|(show CA _ _ (Code.region 13 _ _) _ _;apply Stopped.out)|refine Sp.h ?_|refine Lk.r rfl ?_|refine Rf.mk rfl ?_|(apply Bd.f;(focus first|assumption|omega|exact Bool.false_ne_true))|(refine Im.mk ?_;intro _)|(apply TkA.r;(focus repeat constructor))|(apply Jx.r;(focus exact rfl);(focus first|omega|(simp;done)|(simp;omega)))|(apply Ov.n;(focus first|omega|(simp <;> omega)))|fail));any_goals apply Stopped.mk
  apply CA.toX 0
  focus rfl
  focus (repeat constructor)
  intro _
  (repeat' (first|(show CA _ _ (Code.region 16 _ _) _ _;apply Stopped.out)|refine Sp.h ?_|refine Lk.r rfl ?_|refine Rf.mk rfl ?_|(apply Bd.f;(focus first|assumption|omega|exact Bool.false_ne_true))|refine OpK.r rfl ?_|(apply Om.mk;(focus first|omega|(simp <;> omega)))|refine Rf.mk ⟨rfl, rfl, rfl⟩ ?_|(apply Jx.r;(focus exact rfl);(focus first|omega|(simp;done)|(simp;omega)))|(apply CA.draw;(focus rfl);(focus kernel_rfl);(focus kernel_rfl);(focus repeat' constructor);(focus rfl))|(apply Ov.n;(focus first|omega|(simp <;> omega)))|(apply CpS.part;(focus (repeat constructor;done)))|(apply TkX.r;(focus repeat constructor))|(apply ExX.long;(focus rfl);(focus first|omega|(simp <;> omega));(focus first|omega|(simp <;> omega)))|(apply Ovl.mk';(focus repeat constructor);(focus repeat constructor);(focus decide))|fail));any_goals apply Stopped.mk
  refine CA.sub ⟨[(0, .ow _), (1, it i), (2, .ow u)], [arrR _ 125 4 _ valR, arrR u 125 4 [r] valR]⟩ ⟨by repeat first|trivial|refine ⟨rfl,?_⟩,by repeat first|exact .nil|refine .cons (by repeat constructor) ?_⟩ ?_
  repeat' (first|refine Sp.h ?_|refine Lk.r rfl ?_|refine Rf.mk rfl ?_|(apply TkA.r;(focus repeat constructor))|(apply Nm.r;focus repeat constructor)|refine Rf.mk ⟨rfl, rfl, rfl⟩ ?_|(apply Jx.r;(focus exact rfl);(focus first|omega|(simp;done)|(simp;omega)))|refine Mp.same ?_|(apply CpS.all;(focus (repeat constructor;done)))|fail)
  rw [ins_eq hin _ _ _ (by omega) (by simp;omega) h1r]
  exact ⟨_, _, .one (.same (.nil (by (repeat first|exact .nil|refine .cons (by repeat constructor) ?_)))), _, rfl, rfl⟩
end Go.Proofs.YtmllihbhphnolaaGreat
namespace Go.Proofs.YtmllihbhphnolaaGreat
open Go Go.CF
set_option maxRecDepth 20000
def idxN {α : Type} (p : α → Bool) : List α → Nat
 | [] => 0
 | a :: l => if p a then 0 else idxN p l + 1
def idxI {α : Type} (p : α → Bool) (l : List α) : Int := if idxN p l < l.length then idxN p l else -1
theorem idxN_of {α : Type} {p : α → Bool} : ∀ {l : List α} {i : Nat} {x : α}, l[i]? = some x → p x = true → (∀ j y, j < i → l[j]? = some y → p y = false) → idxN p l = i := by
 intro l
 induction l with
 | nil => intro i x h;cases h
 | cons a l ih =>
  intro i x h1 h2 h3
  cases i with
  | zero => cases h1;simp [idxN, h2]
  | succ i =>
   have := h3 0 a (by omega) rfl
   simp [idxN, this, ih h1 h2 fun j y hj hy => h3 (j + 1) y (by omega) hy]
theorem idxN_none {α : Type} {p : α → Bool} : ∀ {l : List α}, (∀ x ∈ l, p x = false) → idxN p l = l.length := by
 intro l
 induction l with
 | nil => intro _;rfl
 | cons a l ih => intro h;simp [idxN, h a (by simp), ih fun x hx => h x (by simp [hx])]
theorem idxN_at {α : Type} {p : α → Bool} : ∀ {l : List α}, idxN p l < l.length → ∃ x, l[idxN p l]? = some x ∧ p x = true ∧ ∀ j y, j < idxN p l → l[j]? = some y → p y = false := by
 intro l
 induction l with
 | nil => intro h;simp at h
 | cons a l ih =>
  intro h
  by_cases ha : p a = true
  ·exact ⟨a, by simp [idxN, ha], ha, fun j y hj => by simp [idxN, ha] at hj⟩
  ·have he : idxN p (a :: l) = idxN p l + 1 := by simp [idxN, ha]
   obtain ⟨x, h1, h2, h3⟩ := ih (by rw [he] at h;simpa using h)
   refine ⟨x, by rw [he];exact h1, h2, fun j y hj hy => ?_⟩
   cases j with
   | zero => cases hy;simpa using ha
   | succ j => exact h3 j y (by omega) hy
theorem idxN_le {α : Type} (p : α → Bool) : ∀ l : List α, idxN p l ≤ l.length := by
 intro l
 induction l with
 | nil => exact Nat.le_refl _
 | cons a l ih => simp only [idxN, List.length_cons];split <;> omega
theorem indexF_p {g : FuncId} {cap : AV} {p : EvS → Bool} (hg : ∀ e, CallP Tryz.prog g [evA' e, cap] (.val (.bool (p e)))) (he : en g = true) (l : List EvS) :
  CallP Tryz.prog 115 [evs l, .fn g [cap]] (.val (.int .i64 (idxI p l))) := by
 refine CallA.of pg ord115 Tryz.func115 rfl Tryz.ntmps115 Tryz.results115 rfl fun h0 G0 O0 => ?_
 repeat' (first|refine Sp.h ?_|refine Lk.r rfl ?_|refine Rf.mk rfl ?_|(refine Im.mk ?_;intro _)|fail)
 rename_i hll
 refine CA.loop (fun i : Nat => ⟨[(0, evs l), (1, .fn g [cap]), (7, .val (.int .i64 l.length)), (8, .val (.int .i64 i))], []⟩)
  (fun i => i ≤ l.length ∧ ∀ j y, j < i → l[j]? = some y → p y = false) (fun i => l.length - i) 0 ⟨by repeat first|trivial|refine ⟨rfl,?_⟩,by repeat first|exact .nil|refine .cons (by repeat constructor) ?_⟩ ⟨Nat.zero_le _, fun j y h => by omega⟩ ?_
 rintro i ⟨hi, hj⟩
 by_cases hin : i < l.length
 ·obtain ⟨e, hx⟩ := get_of hin
  repeat' (first|refine Sp.h ?_|refine Lk.r rfl ?_|refine Rf.mk rfl ?_|(apply Bd.t;(focus first|assumption|omega|rfl))|(refine Bd.mk ?_ ?_ <;> intro _)|(apply Ix.q;(focus exact rfl);(focus assumption))|refine Ch.l ⟨rfl, rfl⟩ ?_|(apply Nm.r;focus repeat constructor)|(apply Rf.mk;(focus assumption))|(apply Ov.n;(focus first|omega|(simp <;> omega)))|(apply Cl.p (hg e);(focus repeat' (first|exact Lend.nil|apply Lend.keep|fail))))
  ·rename_i hp
   exact Fin.p rfl (by rw [idxI, idxN_of hx hp hj, if_pos hin])
  ·rename_i hp
   refine PA.lp (i + 1) ⟨by repeat first|trivial|refine ⟨rfl,?_⟩,by repeat first|exact .nil|refine .cons (by repeat constructor) ?_⟩ ⟨⟨hin, fun j y h1 h2 => ?_⟩, by omega⟩
   by_cases hij : j = i
   ·subst hij;rw [hx] at h2;cases h2;simpa using hp
   ·exact hj j y (by omega) h2
 ·repeat' (first|refine Sp.h ?_|refine Lk.r rfl ?_|refine Rf.mk rfl ?_|(apply Bd.f;(focus first|assumption|omega|exact Bool.false_ne_true))|(apply Nm.r;focus repeat constructor)|fail)
  exact Fin.p rfl (by rw [idxI, idxN_none (fun x hx => by obtain ⟨j, hx⟩ := List.getElem?_of_mem hx;exact hj j x (by have := (List.getElem?_eq_some_iff.1 hx).1;omega) hx), if_neg (by omega)])
theorem containsF_p {g : FuncId} {cap : AV} {p : EvS → Bool} (hg : ∀ e, CallP Tryz.prog g [evA' e, cap] (.val (.bool (p e)))) (he : en g = true) (l : List EvS) :
  CallP Tryz.prog 194 [evs l, .fn g [cap]] (.val (.bool (decide (idxN p l < l.length)))) := by
 refine CallA.of pg ord194 Tryz.func194 rfl Tryz.ntmps194 Tryz.results194 rfl fun h0 G0 O0 => ?_
 repeat' (first|refine Sp.h ?_|refine Lk.r rfl ?_|refine Rf.mk rfl ?_|(apply Nm.r;focus repeat constructor)|(apply Cl.p (indexF_p hg he l);(focus repeat' (first|exact Lend.nil|apply Lend.keep|fail))))
 refine Fin.p rfl (vb (decide_eq_decide.2 ?_))
 unfold idxI
 split <;> omega
end Go.Proofs.YtmllihbhphnolaaGreat
namespace Go.Proofs.YtmllihbhphnolaaGreat
open Go Go.CF
set_option maxRecDepth 20000
abbrev mA (x : MkS) : AV := .agg (mkC x)
theorem indexK_p {g : FuncId} {cap : AV} {p : MkS → Bool} (hg : ∀ x, CallP Tryz.prog g [mA x, cap] (bl (p x))) (he : en g = true) (l : List MkS) :
  CallP Tryz.prog 291 [mks l, .fn g [cap]] (it (idxI p l)) := by
 refine CallA.of pg ord291 Tryz.func291 rfl Tryz.ntmps291 Tryz.results291 rfl fun h0 G0 O0 => ?_
 repeat' (first|refine Sp.h ?_|refine Lk.r rfl ?_|refine Rf.mk rfl ?_|(refine Im.mk ?_;intro _)|fail)
 refine CA.loop (fun i : Nat => ⟨[(0, mks l), (1, .fn g [cap]), (7, it (l.length : Nat)), (8, it i)], []⟩)
  (fun i => i ≤ l.length ∧ ∀ j y, j < i → l[j]? = some y → p y = false) (fun i => l.length - i) 0 ⟨by repeat first|trivial|refine ⟨rfl,?_⟩,by repeat first|exact .nil|refine .cons (by repeat constructor) ?_⟩ ⟨Nat.zero_le _, fun j y h => by omega⟩ ?_
 rintro i ⟨hi, hj⟩
 by_cases hin : i < l.length
 ·obtain ⟨e, hx⟩ := get_of hin
  repeat' (first|refine Sp.h ?_|refine Lk.r rfl ?_|refine Rf.mk rfl ?_|(apply Bd.t;(focus first|assumption|omega|rfl))|(refine Bd.mk ?_ ?_ <;> intro _)|(apply Ix.q;(focus exact rfl);(focus assumption))|refine Ch.l ⟨rfl, rfl⟩ ?_|(apply Nm.r;focus repeat constructor)|(apply Rf.mk;(focus assumption))|(apply Ov.n;(focus first|omega|(simp <;> omega)))|(apply Cl.p (hg e);(focus repeat' (first|exact Lend.nil|apply Lend.keep|fail))))
  ·rename_i hp
   exact Fin.p rfl (by rw [idxI, idxN_of hx hp hj, if_pos hin])
  ·rename_i hp
   refine PA.lp (i + 1) ⟨by repeat first|trivial|refine ⟨rfl,?_⟩,by repeat first|exact .nil|refine .cons (by repeat constructor) ?_⟩ ⟨⟨hin, fun j y h1 h2 => ?_⟩, by omega⟩
   by_cases hij : j = i
   ·subst hij;rw [hx] at h2;cases h2;simpa using hp
   ·exact hj j y (by omega) h2
 ·repeat' (first|refine Sp.h ?_|refine Lk.r rfl ?_|refine Rf.mk rfl ?_|(apply Bd.f;(focus first|assumption|omega|exact Bool.false_ne_true))|(apply Nm.r;focus repeat constructor)|fail)
  exact Fin.p rfl (by rw [idxI, idxN_none (fun x hx => by obtain ⟨j, hx⟩ := List.getElem?_of_mem hx;exact hj j x (by have := (List.getElem?_eq_some_iff.1 hx).1;omega) hx), if_neg (by omega)])
theorem containsK_p {g : FuncId} {cap : AV} {p : MkS → Bool} (hg : ∀ x, CallP Tryz.prog g [mA x, cap] (bl (p x))) (he : en g = true) (l : List MkS) :
  CallP Tryz.prog 281 [mks l, .fn g [cap]] (bl (decide (idxN p l < l.length))) := by
 refine CallA.of pg ord281 Tryz.func281 rfl Tryz.ntmps281 Tryz.results281 rfl fun h0 G0 O0 => ?_
 repeat' (first|refine Sp.h ?_|refine Lk.r rfl ?_|refine Rf.mk rfl ?_|(apply Nm.r;focus repeat constructor)|(apply Cl.p (indexK_p hg he l);(focus repeat' (first|exact Lend.nil|apply Lend.keep|fail))))
 refine Fin.p rfl (vb (decide_eq_decide.2 ?_))
 unfold idxI
 split <;> omega
theorem idxN_lt {α : Type} {p : α → Bool} {l : List α} : idxN p l < l.length ↔ ∃ x ∈ l, p x = true := by
 constructor
 ·intro h
  obtain ⟨x, h1, h2, _⟩ := idxN_at h
  exact ⟨x, List.mem_of_getElem? h1, h2⟩
 ·rintro ⟨x, hx, hp⟩
  refine Classical.byContradiction fun h => ?_
  have hle := idxN_le p l
  have he : idxN p l = l.length := by omega
  have key : ∀ l : List α, idxN p l = l.length → ∀ x ∈ l, p x = false := by
   intro l
   induction l with
   | nil => intro _ x h;cases h
   | cons a l ih =>
    intro h x hx
    by_cases ha : p a = true
    ·simp [idxN, ha] at h
    ·have ha' : p a = false := by simpa using ha
     simp [idxN, ha'] at h
     rcases List.mem_cons.1 hx with rfl|hx
     ·exact ha'
     ·exact ih h x hx
  rw [key l he x hx] at hp
  cases hp
def mkV (x : MkS) : List Value := [.int .i64 x.rep, .int .i64 x.num, .int .i64 x.time, .int .i64 x.val]
theorem mkV_map (l : List MkS) : (l.map mkV).map valR = l.map mkC := by rw [List.map_map];rfl
theorem filt_idx {α : Type} {p : α → Bool} : ∀ {l : List α}, idxN p l < l.length → (l.take (idxN p l + 1)).filter (fun x => !p x) = l.take (idxN p l) := by
 intro l
 induction l with
 | nil => intro h;simp at h
 | cons a l ih =>
  intro h
  by_cases ha : p a = true
  ·simp [idxN, ha]
  ·have ha' : p a = false := by simpa using ha
   have he : idxN p (a :: l) = idxN p l + 1 := by simp [idxN, ha']
   rw [he] at h ⊢
   have := ih (by simpa using h)
   rw [List.take_succ_cons, List.filter_cons, List.take_succ_cons, this]
   simp [ha']
set_option maxHeartbeats 1000000 in
theorem deleteK_a {g : FuncId} {cap : AV} {p : MkS → Bool} (hg : ∀ x, CallP Tryz.prog g [mA x, cap] (bl (p x))) (he : en g = true) (w : Value) (l : List MkS) (hl : l.length ≤ 1000000) :
  CallA Tryz.prog 294 [.ow w, .fn g [cap]] [arrR w 125 4 l mkC] fun q own => ∃ w', q = .ow w' ∧ own = [arrR w' 125 4 (l.filter fun x => !p x) mkC] := by
 have hix := indexK_p hg he l
 refine CallA.of pg ord294 Tryz.func294 rfl Tryz.ntmps294 Tryz.results294 rfl fun h0 G0 O0 => ?_
 repeat' (first|refine Sp.h ?_|refine Lk.r rfl ?_|refine Rf.mk rfl ?_|fail)
 (apply Cl.lend (hix);(focus repeat' (first|exact Lend.nil|apply Lend.keep|(apply Lend.lend;(focus repeat constructor);(focus first|omega|(simp;omega)))|fail)))
 by_cases hn : idxN p l < l.length
 ·have hI : idxI p l = (idxN p l : Nat) := if_pos hn
  rw [hI]
  repeat' (first|refine Sp.h ?_|refine Lk.r rfl ?_|refine Rf.mk rfl ?_|(apply Bd.f;(focus first|assumption|omega|exact Bool.false_ne_true))|(apply Ov.n;(focus first|omega|(simp <;> omega)))|fail)
  refine CA.loop (fun x : Nat × Nat × List MkS => ⟨[(0, .ow w), (1, .fn g [cap]), (5, it x.1), (6, it x.2.1)], [arrR w 125 4 x.2.2 mkC]⟩)
   (fun x => x.1 < x.2.1 ∧ x.2.1 ≤ l.length ∧ x.2.2.length = l.length ∧ x.2.2.take x.1 = (l.take x.2.1).filter (fun x => !p x) ∧ x.2.2.drop x.2.1 = l.drop x.2.1) (fun x => l.length - x.2.1) (idxN p l, idxN p l + 1, l) ⟨by repeat first|trivial|refine ⟨rfl,?_⟩,by repeat first|exact .nil|refine .cons (by repeat constructor) ?_⟩ ⟨Nat.lt_succ_self _, hn, rfl, (filt_idx hn).symm, rfl⟩ ?_
  rintro ⟨i, j, cur⟩ ⟨h1, h2, h3, h4, h5⟩
  simp only at h1 h2 h3 h4 h5
  simp only
  by_cases hj : j < l.length
  ·obtain ⟨x, hx⟩ := get_of hj
   have hcx : cur[j]? = some x := by
    have := congrArg (fun z => z[0]?) h5
    simpa [List.getElem?_drop, hx] using this
   obtain ⟨y, hy⟩ := get_of (l := cur) (i := i) (by omega)
   have h6 : cur.drop (j + 1) = l.drop (j + 1) := by rw [← List.drop_drop, h5, List.drop_drop]
   have h7 : l.take (j + 1) = l.take j ++ [x] := by rw [List.take_add_one, hx];rfl
   repeat' (first|refine Sp.h ?_|refine Lk.r rfl ?_|refine Rf.mk rfl ?_|(apply Bd.t;(focus first|assumption|omega|rfl))|(refine Bd.mk ?_ ?_ <;> intro _)|(refine All.mk ?_;intro _)|(apply TkA.r;(focus repeat constructor))|(apply TkB.r;(focus repeat constructor))|(apply Ix.q;(focus exact rfl);(focus assumption))|(apply At.r;(focus assumption))|refine Ch.l ⟨rfl, rfl⟩ ?_|(apply SetAsk.r;(focus (repeat (first|exact SetAs.z|(apply SetAs.c;(focus (repeat first|assumption|constructor)))))))|(apply Nm.r;focus repeat constructor)|refine Up.r rfl ?_|(apply Rf.mk;(focus assumption))|(apply Ov.n;(focus first|omega|(simp <;> omega)))|(apply Cl.p (hg x);(focus repeat' (first|exact Lend.nil|apply Lend.keep|fail))))
   ·rename_i hp
    exact PA.lp (i, j + 1, cur) ⟨by repeat first|trivial|refine ⟨rfl,?_⟩,by repeat first|exact .nil|refine .cons (by repeat constructor) ?_⟩ ⟨⟨by simp only;omega, hj, h3, by simp only;rw [h7, List.filter_append, h4];simp [hp], h6⟩, by simp only;omega⟩
   ·rename_i hp
    have hp : p x = false := by simpa using hp
    have h8 : (cur.set i x).take (i + 1) = cur.take i ++ [x] := by
     rw [List.take_add_one, List.getElem?_set, if_pos rfl, if_pos (by omega), List.take_set_of_le (Nat.le_refl _)];rfl
    exact PA.lp (i + 1, j + 1, cur.set i x) ⟨by repeat first|trivial|refine ⟨rfl,?_⟩,by repeat first|exact .nil|refine .cons (by repeat constructor) ?_⟩ ⟨⟨by simp only;omega, hj, by simp only;rw [List.length_set];exact h3, by simp only;rw [h7, List.filter_append, h8, h4];simp [hp], by simp only;rw [List.drop_set_of_lt (by omega)];exact h6⟩, by simp only;omega⟩
  ·have hje : j = l.length := by omega
   subst hje
   rw [List.take_length] at h4
   (repeat' (first|(show CA _ _ (Code.region 11 _ _) _ _;apply Stopped.out)|refine Sp.h ?_|refine Lk.r rfl ?_|refine Rf.mk rfl ?_|(apply Bd.f;(focus first|assumption|omega|exact Bool.false_ne_true))|(apply TkA.r;(focus repeat constructor))|fail));any_goals apply Stopped.mk
   apply CA.retype (m := cur.map mkV) (g := valR)
   focus (repeat constructor)
   focus exact mkV_map cur
   apply CA.toX 0
   focus rfl
   focus (repeat constructor)
   intro hcap
   rw [List.length_map] at hcap
   (repeat' (first|(show CA _ _ Code.ret _ _;apply Stopped.out)|refine Sp.h ?_|refine Lk.r rfl ?_|refine Rf.mk rfl ?_|(apply Om.mk;(focus first|omega|(simp <;> omega)))|refine Rf.mk ⟨rfl, rfl⟩ ?_|refine Rf.mk ⟨rfl, rfl, rfl⟩ ?_|(apply Jx.r;(focus exact rfl);(focus first|omega|(simp;done)|(simp;omega)))|(apply TkX.r;(focus repeat constructor))|(apply ExX.short;(focus rfl);(focus first|omega|(simp <;> omega));(focus first|omega|(simp <;> omega)))|fail));any_goals apply Stopped.mk
   apply CA.retype (m := l.filter fun x => !p x) (g := mkC)
   focus (repeat constructor)
   focus (rw [← h4, ← mkV_map, List.map_take];simp [List.take_take])
   repeat' (first|refine Sp.h ?_|refine Lk.r rfl ?_|(apply Nm.r;focus repeat constructor)|fail)
   exact ⟨_, _, .one (.same (.nil (by (repeat first|exact .nil|refine .cons (by repeat constructor) ?_)))), _, rfl, rfl⟩
 ·have hI : idxI p l = -1 := if_neg hn
  have hall : l.filter (fun x => !p x) = l := List.filter_eq_self.2 fun x hx => by
   have h9 : ¬ ∃ x ∈ l, p x = true := fun h => hn (idxN_lt.2 h)
   cases hpx : p x
   ·rfl
   ·exact absurd ⟨x, hx, hpx⟩ h9
  rw [hI, hall]
  repeat' (first|refine Sp.h ?_|refine Lk.r rfl ?_|refine Rf.mk rfl ?_|(apply Bd.t;(focus first|assumption|omega|rfl))|(apply Nm.r;focus repeat constructor)|fail)
  exact ⟨_, _, .one (.same (.nil (by (repeat first|exact .nil|refine .cons (by repeat constructor) ?_)))), _, rfl, rfl⟩
end Go.Proofs.YtmllihbhphnolaaGreat
namespace Go.Proofs.YtmllihbhphnolaaGreat
open Go Go.CF
set_option maxRecDepth 20000
theorem cloneK_o (l : List MkS) (hl : l.length ≤ 1000000000) : CallO Tryz.prog 193 [mks l] 125 4 l mkC := by
 refine CallA.of pg ord193 Tryz.func193 rfl Tryz.ntmps193 Tryz.results193 rfl fun h0 G0 O0 => ?_
 repeat' (first|refine Sp.h ?_|refine Lk.r rfl ?_|refine Rf.mk rfl ?_|(refine Bd.mk ?_ ?_ <;> intro _)|(apply Om.mk;(focus first|omega|(simp <;> omega)))|(refine Im.mk ?_;intro _)|(refine All.mk ?_;intro _)|(apply TkA.r;(focus repeat constructor))|refine Ce.l rfl ?_|(apply Fk.r;(focus (repeat (first|exact FillA.nil|(apply FillA.agg;(focus rfl);(focus rfl);(focus (repeat (first|exact SetAs.z|(apply SetAs.c;(focus (repeat first|assumption|constructor)))))))|(apply FillA.one;(focus rfl);(focus infer_instance);(focus (repeat first|assumption|constructor)))))))|(apply Nm.r;focus repeat constructor)|refine Rf.mk ⟨rfl, rfl⟩ ?_|refine Rf.mk ⟨rfl, rfl, rfl⟩ ?_|refine Mp.same ?_|fail)
 ·rename_i b hb hbt
  have hl0 : l = [] := Decidable.byContradiction fun h => by rw [hb h] at hbt;cases hbt
  subst hl0
  exact ⟨_, _, .one (.nils (.nil (by (repeat first|exact .nil|refine .cons (by repeat constructor) ?_)))), _, rfl, rfl⟩
 ·repeat' (first|fail)
  exact ⟨_, _, .one (.same (.nil (by (repeat first|exact .nil|refine .cons (by repeat constructor) ?_)))), _, rfl, rfl⟩
theorem cloneG_o (l : List MgS) (hl : l.length ≤ 1000000000) : CallO Tryz.prog 192 [mgs l] 123 3 l mgC := by
 refine CallA.of pg ord192 Tryz.func192 rfl Tryz.ntmps192 Tryz.results192 rfl fun h0 G0 O0 => ?_
 repeat' (first|refine Sp.h ?_|refine Lk.r rfl ?_|refine Rf.mk rfl ?_|(refine Bd.mk ?_ ?_ <;> intro _)|(apply Om.mk;(focus first|omega|(simp <;> omega)))|(refine Im.mk ?_;intro _)|(refine All.mk ?_;intro _)|(apply TkA.r;(focus repeat constructor))|refine Ce.l rfl ?_|(apply Fk.r;(focus (repeat (first|exact FillA.nil|(apply FillA.agg;(focus rfl);(focus rfl);(focus (repeat (first|exact SetAs.z|(apply SetAs.c;(focus (repeat first|assumption|constructor)))))))|(apply FillA.one;(focus rfl);(focus infer_instance);(focus (repeat first|assumption|constructor)))))))|(apply Nm.r;focus repeat constructor)|refine Rf.mk ⟨rfl, rfl⟩ ?_|refine Rf.mk ⟨rfl, rfl, rfl⟩ ?_|refine Mp.same ?_|fail)
 ·rename_i b hb hbt
  have hl0 : l = [] := Decidable.byContradiction fun h => by rw [hb h] at hbt;cases hbt
  subst hl0
  exact ⟨_, _, .one (.nils (.nil (by (repeat first|exact .nil|refine .cons (by repeat constructor) ?_)))), _, rfl, rfl⟩
 ·repeat' (first|fail)
  exact ⟨_, _, .one (.same (.nil (by (repeat first|exact .nil|refine .cons (by repeat constructor) ?_)))), _, rfl, rfl⟩
structure MgE where
 put : Bool
 drop : Bool
 w : Value
 marks : List MkS
def MgE.g (e : MgE) : MgS := ⟨e.put, e.drop, e.marks⟩
def mgeC (e : MgE) : List AV := [bl e.put, bl e.drop, .ow e.w]
abbrev mgeR (e : MgE) : Res := arrR e.w 125 4 e.marks mkC
def ogC (x : Bool × Bool × AV) : List AV := [bl x.1, bl x.2.1, x.2.2]
instance {a b : Bool} {c : AV} : Inv ogC [bl a, bl b, c] (a, b, c) := ⟨rfl⟩
def ogE (e : MgE) : Bool × Bool × AV := (e.put, e.drop, .ow e.w)
def ogG (g : MgS) : Bool × Bool × AV := (g.put, g.drop, mks g.marks)
theorem ogE_map (l : List MgE) : l.map mgeC = (l.map ogE).map ogC := by rw [List.map_map];rfl
theorem ogG_map (l : List MgS) : (l.map ogG).map ogC = l.map mgC := by rw [List.map_map];rfl
abbrev outR (v : Value) (L : List MgE) : List Res := [arrR v 123 3 L mgeC, bunR (L.map mgeR)]
theorem clone34_a (l : List MgS) (hl : l.length ≤ 1000000) (hm : ∀ g ∈ l, g.marks.length ≤ 1000000) :
  CallA Tryz.prog 187 [mgs l] [] fun r own => ∃ v L, r = .ow v ∧ L.map MgE.g = l ∧ own = outR v L := by
 have hc := cloneG_o l (by omega)
 refine CallA.of pg ord187 Tryz.func187 rfl Tryz.ntmps187 Tryz.results187 rfl fun h0 G0 O0 => ?_
 repeat' (first|refine Sp.h ?_|refine Lk.r rfl ?_|refine Rf.mk rfl ?_|fail)
 (refine Cl.use (hc) (by repeat' (first|exact Lend.nil|apply Lend.keep|fail)) .nil rfl ?_;rintro _ _ ⟨_, rfl, rfl⟩)
 repeat' (first|refine Sp.h ?_|refine Lk.r rfl ?_|refine Rf.mk rfl ?_|(apply TkA.r;(focus repeat constructor))|fail)
 rename_i v
 apply CA.retype (m := l.map ogG) (g := ogC)
 focus (repeat constructor)
 focus exact ogG_map l
 refine CA.bunNil mgeR ?_
 refine CA.loop (fun x : Nat × List MgE => ⟨[(3, .ow v), (8, it (l.length : Nat)), (9, it x.1)], [arrR v 123 3 (x.2.map ogE ++ (l.drop x.1).map ogG) ogC, bunR (x.2.map mgeR)]⟩)
  (fun x => x.1 ≤ l.length ∧ x.2.map MgE.g = l.take x.1) (fun x => l.length - x.1) (0, []) ⟨by repeat first|trivial|refine ⟨rfl,?_⟩,by repeat first|exact .nil|refine .cons (by repeat constructor) ?_⟩ ⟨Nat.zero_le _, by simp⟩ ?_
 rintro ⟨i, D⟩ ⟨hi, hD⟩
 simp only at hi hD
 simp only
 by_cases hin : i < l.length
 ·obtain ⟨g, hg⟩ := get_of hin
  have hgm := hm g (List.mem_of_getElem? hg)
  have hDl : D.length = i := by have := congrArg List.length hD;simp at this;omega
  have hdr : (l.drop i).map ogG = ogG g :: (l.drop (i + 1)).map ogG := by
   have h9 := List.drop_eq_getElem_cons hin
   rw [(List.getElem?_eq_some_iff.1 hg).2] at h9
   rw [h9, List.map_cons]
  have hrow : (D.map ogE ++ (l.drop i).map ogG)[i]? = some (g.put, g.drop, mks g.marks) := by
   rw [hdr, List.getElem?_append_right (by simp;omega)];simp [hDl, ogG]
  have hcl := cloneK_o g.marks (by omega)
  repeat' (first|refine Sp.h ?_|refine Lk.r rfl ?_|refine Rf.mk rfl ?_|(apply Bd.t;(focus first|assumption|omega|rfl))|(apply TkA.r;(focus repeat constructor))|(apply Ix.q;(focus exact rfl);(focus assumption))|(apply At.r;(focus assumption))|fail)
  (refine Cl.use (hcl) (by repeat' (first|exact Lend.nil|apply Lend.keep|fail)) .nil rfl ?_;rintro _ _ ⟨_, rfl, rfl⟩)
  (repeat' (first|(show CA _ _ (Code.region 6 _ _) _ _;apply Stopped.out)|refine Sp.h ?_|refine Lk.r rfl ?_|refine Rf.mk rfl ?_|(apply TkA.r;(focus repeat constructor))|(apply Ix.q;(focus exact rfl);(focus assumption))|(apply At.r;(focus assumption))|(apply SetAk.r;(focus (repeat first|assumption|constructor)))|(apply Up.inv;(focus repeat constructor);(focus infer_instance))|fail));any_goals apply Stopped.mk
  rename_i w2
  have hset : (D.map ogE ++ (l.drop i).map ogG).set i (g.put, g.drop, .ow w2) = (D ++ [(MgE.mk g.put g.drop w2 g.marks)]).map ogE ++ (l.drop (i + 1)).map ogG := by
   rw [hdr, List.set_append, if_neg (by simp;omega)]
   simp [hDl, ogE]
  rw [hset]
  apply CA.bunPush (g := mgeR) (x := (MgE.mk g.put g.drop w2 g.marks))
  focus (repeat constructor)
  focus (repeat constructor)
  repeat' (first|refine Sp.h ?_|refine Lk.r rfl ?_|refine Rf.mk rfl ?_|(apply Ov.n;(focus first|omega|(simp <;> omega)))|fail)
  exact PA.lp (i + 1, D ++ [(MgE.mk g.put g.drop w2 g.marks)]) ⟨by repeat first|trivial|refine ⟨rfl,?_⟩,by repeat first|exact .nil|refine .cons (by repeat constructor) ?_⟩ ⟨⟨hin, by simp only;rw [List.map_append, hD, List.take_add_one, hg];rfl⟩, by simp only;omega⟩
 ·have hie : i = l.length := by omega
  subst hie
  rw [List.take_length] at hD
  rw [List.drop_length, List.map_nil, List.append_nil]
  (repeat' (first|(show CA _ _ (Code.region 7 _ _) _ _;apply Stopped.out)|refine Sp.h ?_|refine Lk.r rfl ?_|refine Rf.mk rfl ?_|(apply Bd.f;(focus first|assumption|omega|exact Bool.false_ne_true))|fail));any_goals apply Stopped.mk
  apply CA.retype (m := D) (g := mgeC)
  focus (repeat constructor)
  focus exact ogE_map D
  repeat' (first|refine Sp.h ?_|refine Lk.r rfl ?_|refine Rf.mk rfl ?_|(apply Nm.r;focus repeat constructor)|fail)
  exact ⟨_, _, .one (.same (.nil (by (repeat first|exact .nil|refine .cons (by repeat constructor) ?_)))), _, D, rfl, hD, rfl⟩
end Go.Proofs.YtmllihbhphnolaaGreat
namespace Go.Proofs.YtmllihbhphnolaaGreat
open Go Go.CF
set_option maxRecDepth 20000
instance {a b : AV} [ha : Flat a] [hb : Flat b] : Flat (.tup [a, b]) := ⟨by
 rintro h h' G G' v ⟨vs, rfl, hr⟩
 match vs, hr with
 | [x, y], ⟨h1, h2, _⟩ => exact ⟨[x, y], rfl, ha.h _ _ _ _ _ h1, hb.h _ _ _ _ _ h2, trivial⟩⟩
noncomputable def posK (l : List MkS) (x : MkS) : Nat := idxN (fun y => decide (¬ LtK y x)) l
def MonoK (l : List MkS) (x : MkS) : Prop := ∀ (i j : Nat) (a b : MkS), i ≤ j → l[i]? = some a → l[j]? = some b → LtK b x → LtK a x
theorem posK_of {l : List MkS} {x : MkS} {n : Nat} (hn : n ≤ l.length) (h1 : ∀ (q : Nat) y, q < n → l[q]? = some y → LtK y x) (h2 : ∀ (q : Nat) y, n ≤ q → l[q]? = some y → ¬ LtK y x) : posK l x = n := by
 by_cases hnl : n < l.length
 ·obtain ⟨y, hy⟩ := get_of hnl
  exact idxN_of hy (decide_eq_true (h2 n y (Nat.le_refl _) hy)) fun j z hj hz => decide_eq_false (fun h => h (h1 j z hj hz))
 ·have hne : n = l.length := by omega
  rw [hne]
  exact idxN_none fun y hy => by
   obtain ⟨j, hj⟩ := List.getElem?_of_mem hy
   exact decide_eq_false (fun h => h (h1 j y (by have := (List.getElem?_eq_some_iff.1 hj).1;omega) hj))
noncomputable def fndK (l : List MkS) (x : MkS) : Bool := decide (∃ y, l[posK l x]? = some y ∧ cmpK y x = 0)
theorem binK_p (l : List MkS) (x : MkS) (hm : MonoK l x) (hl : l.length ≤ 1000000) :
  CallP Tryz.prog 283 [mks l, mA x, .fn 277 []] (.tup [it (posK l x : Nat), bl (fndK l x)]) := by
 refine CallA.of pg ord283 Tryz.func283 rfl Tryz.ntmps283 Tryz.results283 rfl fun h0 G0 O0 => ?_
 repeat' (first|refine Sp.h ?_|refine Lk.r rfl ?_|refine Rf.mk rfl ?_|(refine Im.mk ?_;intro _)|(refine All.mk ?_;intro _)|fail)
 refine CA.loop (fun p : Nat × Nat => ⟨[(0, mks l), (2, .fn 277 []), (4, pm _), (8, it (l.length : Nat)), (9, it p.1), (10, it p.2)], [blkR _ 125 (mkC x)]⟩)
  (fun p => p.1 ≤ p.2 ∧ p.2 ≤ l.length ∧ (∀ (q : Nat) y, q < p.1 → l[q]? = some y → LtK y x) ∧ ∀ (q : Nat) y, p.2 ≤ q → l[q]? = some y → ¬ LtK y x) (fun p => p.2 - p.1) (0, l.length) ⟨by repeat first|trivial|refine ⟨rfl,?_⟩,by repeat first|exact .nil|refine .cons (by repeat constructor) ?_⟩
  ⟨Nat.zero_le _, Nat.le_refl _, fun q y h => absurd h (Nat.not_lt_zero q), fun q y h h' => by have := (List.getElem?_eq_some_iff.1 h').1;simp only at h;omega⟩ ?_
 rintro ⟨i, j⟩ ⟨h1, h2, h3, h4⟩
 simp only at h1 h2 h3 h4
 simp only
 by_cases hij : i < j
 ·obtain ⟨y, hy⟩ := get_of (l := l) (i := (i + j) / 2) (by omega)
  have hcm := cmpK_neg (a := y) (b := x)
  have e1 : ((i : Int) + (j : Int)) / 2 = (((i + j) / 2 : Nat) : Int) := by omega
  repeat' (first|refine Sp.h ?_|refine Lk.r rfl ?_|refine Rf.mk rfl ?_|(apply Bd.t;(focus first|assumption|omega|rfl))|(refine Bd.mk ?_ ?_ <;> intro _)|refine OpK.r rfl ?_|(apply TkB.r;(focus repeat constructor))|(apply Ix.q;(focus exact rfl);(focus assumption))|refine Ch.l ⟨rfl, rfl⟩ ?_|(apply CA.draw;(focus rfl);(focus kernel_rfl);(focus kernel_rfl);(focus repeat' constructor);(focus rfl))|(apply Ov.n;(focus first|omega|(simp <;> omega)))|(apply Cvk.i64;(focus rfl);(focus omega))|(apply Cvk.u64;(focus rfl);(focus omega))|(apply Cl.p (compareK_p _ _);(focus repeat' (first|exact Lend.nil|apply Lend.keep|fail))))
  ·rename_i hlt
   have hyx := hcm.1 hlt
   exact PA.lp ((i + j) / 2 + 1, j) ⟨by repeat first|trivial|refine ⟨rfl,?_⟩,by repeat first|exact .nil|refine .cons (by repeat constructor) ?_⟩ ⟨⟨by simp only;omega, h2, fun q z hq hz => hm q ((i + j) / 2) z y (by simp only at hq;omega) hz hy hyx, h4⟩, by simp only;omega⟩
  ·rename_i hlt
   have hyx : ¬ LtK y x := fun h => hlt (hcm.2 h)
   exact PA.lp (i, (i + j) / 2) ⟨by repeat first|trivial|refine ⟨rfl,?_⟩,by repeat first|exact .nil|refine .cons (by repeat constructor) ?_⟩ ⟨⟨by simp only;omega, by simp only;omega, h3, fun q z hq hz h => hyx (hm ((i + j) / 2) q y z (by simp only at hq;omega) hy hz h)⟩, by simp only;omega⟩
 ·have hije : i = j := by omega
  subst hije
  have hpos := posK_of h2 h3 h4
  by_cases hin : i < l.length
  ·obtain ⟨y, hy⟩ := get_of hin
   repeat' (first|refine Sp.h ?_|refine Lk.r rfl ?_|refine Rf.mk rfl ?_|(apply Bd.t;(focus first|assumption|omega|rfl))|(apply Bd.f;(focus first|assumption|omega|exact Bool.false_ne_true))|refine OpK.r rfl ?_|(apply TkB.r;(focus repeat constructor))|(apply Ix.q;(focus exact rfl);(focus assumption))|refine Ch.l ⟨rfl, rfl⟩ ?_|(apply Nm.r;focus repeat constructor)|(apply CA.draw;(focus rfl);(focus kernel_rfl);(focus kernel_rfl);(focus repeat' constructor);(focus rfl))|(apply Cl.p (compareK_p _ _);(focus repeat' (first|exact Lend.nil|apply Lend.keep|fail))))
   refine Fin.p rfl ?_
   rw [hpos]
   have : fndK l x = decide (cmpK y x = 0) := decide_eq_decide.2 (by rw [hpos, hy];simp)
   rw [this]
  ·repeat' (first|refine Sp.h ?_|refine Lk.r rfl ?_|refine Rf.mk rfl ?_|(apply Bd.f;(focus first|assumption|omega|exact Bool.false_ne_true))|refine OpK.r rfl ?_|(apply Nm.r;focus repeat constructor)|(apply CA.draw;(focus rfl);(focus kernel_rfl);(focus kernel_rfl);(focus repeat' constructor);(focus rfl))|(apply Cl.p (compareK_p _ _);(focus repeat' (first|fail))))
   refine Fin.p rfl ?_
   rw [hpos]
   have : fndK l x = false := decide_eq_false (by rw [hpos];rintro ⟨y, hy, _⟩;have := (List.getElem?_eq_some_iff.1 hy).1;omega)
   rw [this]
end Go.Proofs.YtmllihbhphnolaaGreat
namespace Go.Proofs.YtmllihbhphnolaaGreat
open Go Go.CF
set_option maxRecDepth 20000
theorem insertV_b {β : Type} (w u : Value) (L : List (List Value)) (r : List Value) (r' : β) (g : β → List AV) (hr : g r' = valR r) (i : Nat) (hi : i ≤ L.length) (hl : L.length ≤ 1000000) :
  CallA Tryz.prog 284 [.ow w, it i, .ow u] [arrR w 125 4 L valR, arrR u 125 4 [r'] g] fun q own => ∃ w', q = .ow w' ∧ own = [arrR w' 125 4 (L.take i ++ r :: L.drop i) valR] := by
 refine ⟨fun h G Os vs h1 h2 => ?_⟩
 match Os, h2.own with
 | [O1, O2], ⟨k1, ⟨ho, rows, hw, hrr⟩, _⟩ =>
  exact (insertV_a w u L r i hi hl).run h G [O1, O2] vs h1 ⟨⟨k1, ⟨ho, rows, hw, hrr.map (by simp [hr])⟩, trivial⟩, h2.g, h2.g0, h2.o, h2.d, h2.fp⟩
def chC (kp : AV) (e : EvS) (m : MkS) : List AV := [kp, iv e.rep, iv e.num, iv e.time, ints e.past, iv e.kind, iv e.action, iv e.gk, iv e.gi, iv e.ge, iv e.ga, iv e.to, iv e.place, iv e.serial, it m.rep, it m.num, it m.time, it m.val]
noncomputable instance (x y : MkS) : Decidable (Nm x y) := Classical.propDecidable _
theorem add1_p (kp : AV) (e : EvS) (m x : MkS) : CallP Tryz.prog 282 [mA x, .ad (chC kp e m) 0] (bl (decide (Nm x m))) := by
 refine CallA.of pg ord282 Tryz.func282 rfl Tryz.ntmps282 Tryz.results282 rfl fun h0 G0 O0 => ?_
 repeat' (first|refine Sp.h ?_|refine Lk.r rfl ?_|refine Rf.mk rfl ?_|refine OpK.r rfl ?_|(refine All.mk ?_;intro _)|(apply TkB.r;(focus repeat constructor))|refine Ch.l ⟨rfl, rfl⟩ ?_|refine Ch.r ?_|(apply Nm.r;focus repeat constructor)|(apply Il.r;(focus repeat (first|apply ILit.cons|exact ILit.nil)))|(apply Kf.mk;(focus kernel_rfl))|(apply CA.draw;(focus rfl);(focus kernel_rfl);(focus kernel_rfl);(focus repeat' constructor);(focus rfl))|(apply Cl.p (dot_p _);(focus repeat' (first|exact Lend.nil|apply Lend.keep|fail))))
 refine Fin.p rfl (vb (decide_eq_decide.2 ?_))
 unfold Nm
 simp
noncomputable def insK (l : List MkS) (x : MkS) : List MkS := l.take (posK l x) ++ x :: l.drop (posK l x)
noncomputable def addF (l : List MkS) (x : MkS) : Int × List MkS := if HasNm l x then (6, l) else if 1024 ≤ l.length then (8, l) else (0, insK l x)
theorem posK_le (l : List MkS) (x : MkS) : posK l x ≤ l.length := idxN_le _ l
theorem insK_map (l : List MkS) (x : MkS) : (insK l x).map mkV = (l.map mkV).take (posK l x) ++ mkV x :: (l.map mkV).drop (posK l x) := by
 simp [insK, List.map_take, List.map_drop]
theorem has_idx (l : List MkS) (m : MkS) : idxN (fun x => decide (Nm x m)) l < l.length ↔ HasNm l m := idxN_lt.trans (by simp [HasNm])
set_option maxHeartbeats 2000000 in
theorem add_a (v : Value) (i : Nat) (e : EvS) (m : MkS) (L : List MgE) (x : MgE) (hx : L[i]? = some x) (hm : MonoK x.marks m) (hl : x.marks.length ≤ 1024) :
  CallA Tryz.prog 250 [.agg (chC (.oe v 3 i 0) e m)] [arrR v 123 3 L mgeC, mgeR x] fun r own => ∃ w', r = it (addF x.marks m).1 ∧ own = [arrR v 123 3 (L.set i ⟨x.put, x.drop, w', (addF x.marks m).2⟩) mgeC, arrR w' 125 4 (addF x.marks m).2 mkC] := by
 have hcon := containsK_p (add1_p (.oe v 3 i 0) e m) rfl x.marks
 have hbin := binK_p x.marks m hm (by omega)
 have hsame : L.set i ⟨x.put, x.drop, x.w, x.marks⟩ = L := by
  have := (List.getElem?_eq_some_iff.1 hx)
  apply List.ext_getElem?
  intro j
  rw [List.getElem?_set]
  split
  ·rename_i hj;subst hj;rw [if_pos this.1, hx]
  ·rfl
 refine CallA.of pg ord250 Tryz.func250 rfl Tryz.ntmps250 Tryz.results250 rfl fun h0 G0 O0 => ?_
 repeat' (first|refine Sp.h ?_|refine Lk.r rfl ?_|refine Rf.mk rfl ?_|(refine All.mk ?_;intro _)|(apply TkA.r;(focus repeat constructor))|(apply TkB.r;(focus repeat constructor))|(apply At.r;(focus assumption))|fail)
 (apply Cl.lend (hcon);(focus repeat' (first|exact Lend.nil|apply Lend.keep|(apply Lend.lend;(focus repeat constructor);(focus first|omega|(simp;omega)))|(apply Lend.cell;(focus repeat constructor))|refine Lend.fn ?_ ?_|fail)))
 have hid := has_idx x.marks m
 by_cases hhas : HasNm x.marks m
 ·have h6 : addF x.marks m = (6, x.marks) := if_pos hhas
  have hlt := hid.2 hhas
  rw [h6]
  repeat' (first|refine Sp.h ?_|refine Lk.r rfl ?_|refine Rf.mk rfl ?_|(apply Bd.t;(focus first|assumption|omega|rfl))|(apply Nm.r;focus repeat constructor)|fail)
  exact ⟨_, _, .one (.same (.nil (by (repeat first|exact .nil|refine .cons (by repeat constructor) ?_)))), x.w, rfl, congrArg (fun z => [arrR v 123 3 z mgeC, mgeR x]) hsame.symm⟩
 ·have hlt : ¬ idxN (fun x => decide (Nm x m)) x.marks < x.marks.length := fun h => hhas (hid.1 h)
  by_cases hbig : 1024 ≤ x.marks.length
  ·have h8 : addF x.marks m = (8, x.marks) := by rw [addF, if_neg hhas, if_pos hbig]
   rw [h8]
   repeat' (first|refine Sp.h ?_|refine Lk.r rfl ?_|refine Rf.mk rfl ?_|(apply Bd.t;(focus first|assumption|omega|rfl))|(apply Bd.f;(focus first|assumption|omega|exact Bool.false_ne_true))|(apply TkA.r;(focus repeat constructor))|(apply TkB.r;(focus repeat constructor))|(apply At.r;(focus assumption))|(apply Nm.r;focus repeat constructor)|fail)
   exact ⟨_, _, .one (.same (.nil (by (repeat first|exact .nil|refine .cons (by repeat constructor) ?_)))), x.w, rfl, congrArg (fun z => [arrR v 123 3 z mgeC, mgeR x]) hsame.symm⟩
  ·have h0 : addF x.marks m = (0, insK x.marks m) := by rw [addF, if_neg hhas, if_neg hbig]
   rw [h0]
   repeat' (first|refine Sp.h ?_|refine Lk.r rfl ?_|refine Rf.mk rfl ?_|(apply Bd.f;(focus first|assumption|omega|exact Bool.false_ne_true))|refine OpK.r rfl ?_|(apply TkA.r;(focus repeat constructor))|(apply TkB.r;(focus repeat constructor))|(apply At.r;(focus assumption))|refine Ch.r ?_|(apply CA.draw;(focus rfl);(focus kernel_rfl);(focus kernel_rfl);(focus repeat' constructor);(focus rfl))|fail)
   (apply Cl.lend (hbin);(focus repeat' (first|exact Lend.nil|apply Lend.keep|(apply Lend.lend;(focus repeat constructor);(focus first|omega|(simp;omega)))|fail)))
   (repeat' (first|(show CA _ _ (Code.region 6 _ _) _ _;apply Stopped.out)|refine Sp.h ?_|refine Lk.r rfl ?_|refine OpK.r rfl ?_|fail));any_goals apply Stopped.mk
   apply CA.retype (v := x.w) (m := x.marks.map mkV) (g := valR)
   focus (repeat constructor)
   focus exact mkV_map x.marks
   repeat' (first|refine Sp.h ?_|refine Lk.r rfl ?_|refine Rf.mk rfl ?_|refine OpK.r rfl ?_|(refine All.mk ?_;intro _)|(apply TkA.r;(focus repeat constructor))|(apply TkB.r;(focus repeat constructor))|(apply At.r;(focus assumption))|refine Ch.r ?_|(apply Fk.r;(focus (repeat (first|exact FillA.nil|(apply FillA.agg;(focus rfl);(focus rfl);(focus (repeat (first|exact SetAs.z|(apply SetAs.c;(focus (repeat first|assumption|constructor)))))))|(apply FillA.one;(focus rfl);(focus infer_instance);(focus (repeat first|assumption|constructor)))))))|refine Rf.mk ⟨rfl, rfl, rfl⟩ ?_|(apply CA.draw;(focus rfl);(focus kernel_rfl);(focus kernel_rfl);(focus repeat' constructor);(focus rfl))|exact trivial|apply RA'.both|fail)
   all_goals
    rename_i u
    have hins := insertV_b x.w u (x.marks.map mkV) (mkV m) (mkC m) id rfl (posK x.marks m) (by rw [List.length_map];exact posK_le _ _) (by rw [List.length_map];omega)
    rw [← insK_map] at hins
    (apply Cl.use (hins);(focus repeat' (first|exact Lend.nil|apply Lend.keep|fail));(focus (repeat (first|exact Takes.nil|(apply Takes.cons;(focus repeat constructor)))));(focus rfl))
    rintro _ _ ⟨w', rfl, rfl⟩
    have inv : Inv mgeC [bl x.put, bl x.drop, .ow w'] ⟨x.put, x.drop, w', insK x.marks m⟩ := ⟨rfl⟩
    (repeat' (first|(show CA _ _ (Code.region 7 _ _) _ _;apply Stopped.out)|refine Sp.h ?_|refine Lk.r rfl ?_|refine Rf.mk rfl ?_|refine OpK.r rfl ?_|(apply TkA.r;(focus repeat constructor))|(apply TkB.r;(focus repeat constructor))|(apply At.r;(focus assumption))|(apply SetAk.r;(focus (repeat first|assumption|constructor)))|(apply Up.inv;(focus repeat constructor);(focus infer_instance))|fail));any_goals apply Stopped.mk
    apply CA.retype (v := w') (m := insK x.marks m) (g := mkC)
    focus (repeat constructor)
    focus exact (mkV_map _).symm
    repeat' (first|refine Sp.h ?_|refine Lk.r rfl ?_|refine Rf.mk rfl ?_|(apply Nm.r;focus repeat constructor)|fail)
    exact ⟨_, _, .one (.same (.nil (by (repeat first|exact .nil|refine .cons (by repeat constructor) ?_)))), w', rfl, rfl⟩
end Go.Proofs.YtmllihbhphnolaaGreat
namespace Go.Proofs.YtmllihbhphnolaaGreat
open Go Go.CF
set_option maxRecDepth 20000
abbrev ChO (v : Value) (i : Nat) (L : List MgE) (p d : Bool) (l : List MkS) (own : List Res) : Prop := ∃ w', own = [arrR v 123 3 (L.set i ⟨p, d, w', l⟩) mgeC, arrR w' 125 4 l mkC]
noncomputable def fgK (past : List Int) (l : List MkS) : List MkS := l.filter fun x => !decide (HasC past x.rep x.num)
theorem forget1_p (kp : AV) (e : EvS) (m x : MkS) : CallP Tryz.prog 295 [mA x, .ad (chC kp e m) 0] (bl (decide (HasC e.past x.rep x.num))) := by
 refine CallA.of pg ord295 Tryz.func295 rfl Tryz.ntmps295 Tryz.results295 rfl fun h0 G0 O0 => ?_
 repeat' (first|refine Sp.h ?_|refine Lk.r rfl ?_|refine Rf.mk rfl ?_|refine OpK.r rfl ?_|(refine All.mk ?_;intro _)|(apply TkB.r;(focus repeat constructor))|refine Ch.l ⟨rfl, rfl⟩ ?_|(apply Nm.r;focus repeat constructor)|(apply CA.draw;(focus rfl);(focus kernel_rfl);(focus kernel_rfl);(focus repeat' constructor);(focus rfl))|(apply Cl.p (dot_p _);(focus repeat' (first|exact Lend.nil|apply Lend.keep|fail)))|(apply Cl.p (hasC_p _ _ _);(focus repeat' (first|exact Lend.nil|apply Lend.keep|fail))))
 exact Fin.p rfl rfl
theorem forget_a (v : Value) (i : Nat) (e : EvS) (m : MkS) (L : List MgE) (x : MgE) (hx : L[i]? = some x) (hl : x.marks.length ≤ 1024) :
  CallA Tryz.prog 285 [.agg (chC (.oe v 3 i 0) e m)] [arrR v 123 3 L mgeC, mgeR x] fun _ own => ChO v i L x.put x.drop (fgK e.past x.marks) own := by
 have hdel := deleteK_a (forget1_p (.oe v 3 i 0) e m) rfl x.w x.marks (by omega)
 refine CallA.of pg ord285 Tryz.func285 rfl Tryz.ntmps285 Tryz.results285 rfl fun h0 G0 O0 => ?_
 (repeat' (first|(show CA _ _ (Code.region 1 _ _) _ _;apply Stopped.out)|refine Sp.h ?_|refine Lk.r rfl ?_|refine Rf.mk rfl ?_|(refine All.mk ?_;intro _)|fail));any_goals apply Stopped.mk
 apply CA.freezeB 1
 focus rfl
 focus (repeat constructor)
 repeat' (first|refine Sp.h ?_|refine Lk.r rfl ?_|refine Rf.mk rfl ?_|refine OpK.r rfl ?_|(apply TkA.r;(focus repeat constructor))|(apply At.r;(focus assumption))|(apply CA.draw;(focus rfl);(focus kernel_rfl);(focus kernel_rfl);(focus repeat' constructor);(focus rfl))|exact trivial|apply RA'.both|fail)
 all_goals
  (apply Cl.use (hdel);(focus repeat' (first|exact Lend.nil|apply Lend.keep|fail));(focus (repeat (first|exact Takes.nil|(apply Takes.cons;(focus repeat constructor)))));(focus rfl))
  rintro _ _ ⟨w', rfl, rfl⟩
  have inv : Inv mgeC [bl x.put, bl x.drop, .ow w'] ⟨x.put, x.drop, w', fgK e.past x.marks⟩ := ⟨rfl⟩
  repeat' (first|refine Sp.h ?_|refine Lk.r rfl ?_|refine Rf.mk rfl ?_|refine OpK.r rfl ?_|(apply TkA.r;(focus repeat constructor))|(apply At.r;(focus assumption))|(apply SetAk.r;(focus (repeat first|assumption|constructor)))|(apply Nm.r;focus repeat constructor)|(apply Up.inv;(focus repeat constructor);(focus infer_instance))|fail)
  exact ⟨_, _, .tup (.nil (by (repeat first|exact .nil|refine .cons (by repeat constructor) ?_))), w', rfl⟩
theorem drop_a (v : Value) (i : Nat) (e : EvS) (m : MkS) (L : List MgE) (x : MgE) (hx : L[i]? = some x) (hl : x.marks.length ≤ 1024) :
  CallA Tryz.prog 251 [.agg (chC (.oe v 3 i 0) e m)] [arrR v 123 3 L mgeC, mgeR x] fun q own => q = it 0 ∧ ChO v i L false x.drop (fgK e.past x.marks) own := by
 have hi := (List.getElem?_eq_some_iff.1 hx).1
 have inv : Inv mgeC [bl false, bl x.drop, .ow x.w] ⟨false, x.drop, x.w, x.marks⟩ := ⟨rfl⟩
 have hf := forget_a v i e m (L.set i ⟨false, x.drop, x.w, x.marks⟩) ⟨false, x.drop, x.w, x.marks⟩ (by rw [List.getElem?_set, if_pos rfl, if_pos hi]) hl
 refine CallA.of pg ord251 Tryz.func251 rfl Tryz.ntmps251 Tryz.results251 rfl fun h0 G0 O0 => ?_
 repeat' (first|refine Sp.h ?_|refine Lk.r rfl ?_|refine Rf.mk rfl ?_|(refine All.mk ?_;intro _)|(apply TkA.r;(focus repeat constructor))|(apply TkB.r;(focus repeat constructor))|(apply At.r;(focus assumption))|refine Ch.l ⟨rfl, rfl⟩ ?_|(apply SetAk.r;(focus (repeat first|assumption|constructor)))|(apply Up.inv;(focus repeat constructor);(focus infer_instance))|fail)
 (apply Cl.use (hf);(focus repeat' (first|exact Lend.nil|apply Lend.keep|fail));(focus (repeat (first|exact Takes.nil|(apply Takes.cons;(focus repeat constructor)))));(focus rfl))
 rintro _ _ ⟨w', rfl⟩
 rw [List.set_set]
 repeat' (first|refine Sp.h ?_|refine Lk.r rfl ?_|refine Rf.mk rfl ?_|(apply Nm.r;focus repeat constructor)|fail)
 exact ⟨_, _, .one (.same (.nil (by (repeat first|exact .nil|refine .cons (by repeat constructor) ?_)))), rfl, w', rfl⟩
theorem put_a (v : Value) (i : Nat) (e : EvS) (m : MkS) (L : List MgE) (x : MgE) (hx : L[i]? = some x) (hl : x.marks.length ≤ 1024) :
  CallA Tryz.prog 252 [.agg (chC (.oe v 3 i 0) e m)] [arrR v 123 3 L mgeC, mgeR x] fun q own => q = it 0 ∧ ChO v i L true false (fgK e.past x.marks) own := by
 have hi := (List.getElem?_eq_some_iff.1 hx).1
 have inv : Inv mgeC [bl true, bl x.drop, .ow x.w] ⟨true, x.drop, x.w, x.marks⟩ := ⟨rfl⟩
 have inv2 : Inv mgeC [bl true, bl false, .ow x.w] ⟨true, false, x.w, x.marks⟩ := ⟨rfl⟩
 have inv3 : Inv mgeC [bl x.put, bl false, .ow x.w] ⟨x.put, false, x.w, x.marks⟩ := ⟨rfl⟩
 have hf := forget_a v i e m (L.set i ⟨true, false, x.w, x.marks⟩) ⟨true, false, x.w, x.marks⟩ (by rw [List.getElem?_set, if_pos rfl, if_pos hi]) hl
 have hx1 : ∀ y : MgE, (L.set i y)[i]? = some y := fun y => by rw [List.getElem?_set, if_pos rfl, if_pos hi]
 have h1 := hx1 ⟨true, x.drop, x.w, x.marks⟩
 have h3 := hx1 ⟨x.put, false, x.w, x.marks⟩
 refine CallA.of pg ord252 Tryz.func252 rfl Tryz.ntmps252 Tryz.results252 rfl fun h0 G0 O0 => ?_
 repeat' (first|refine Sp.h ?_|refine Lk.r rfl ?_|refine Rf.mk rfl ?_|refine OpK.r rfl ?_|(refine All.mk ?_;intro _)|(apply TkA.r;(focus repeat constructor))|(apply TkB.r;(focus repeat constructor))|(apply At.r;(focus assumption))|refine Ch.l ⟨rfl, rfl⟩ ?_|(apply SetAk.r;(focus (repeat first|assumption|constructor)))|(apply Up.inv;(focus repeat constructor);(focus infer_instance))|(apply CA.draw;(focus rfl);(focus kernel_rfl);(focus kernel_rfl);(focus repeat' constructor);(focus rfl))|exact trivial|apply RA'.both|fail)
 all_goals rw [List.set_set]
 all_goals
  (apply Cl.use (hf);(focus repeat' (first|exact Lend.nil|apply Lend.keep|fail));(focus (repeat (first|exact Takes.nil|(apply Takes.cons;(focus repeat constructor)))));(focus rfl))
  rintro _ _ ⟨w', rfl⟩
  rw [List.set_set]
  repeat' (first|refine Sp.h ?_|refine Lk.r rfl ?_|refine Rf.mk rfl ?_|(apply Nm.r;focus repeat constructor)|fail)
  exact ⟨_, _, .one (.same (.nil (by (repeat first|exact .nil|refine .cons (by repeat constructor) ?_)))), rfl, w', rfl⟩
theorem multi_a (v : Value) (i : Nat) (e : EvS) (m : MkS) (L : List MgE) (x : MgE) (hx : L[i]? = some x) (hl : x.marks.length ≤ 1024) (hm : MonoK (fgK e.past x.marks) m) :
  CallA Tryz.prog 254 [.agg (chC (.oe v 3 i 0) e m)] [arrR v 123 3 L mgeC, mgeR x] fun q own => q = it (addF (fgK e.past x.marks) m).1 ∧ ChO v i L x.put x.drop (addF (fgK e.past x.marks) m).2 own := by
 have hi := (List.getElem?_eq_some_iff.1 hx).1
 have hf := forget_a v i e m L x hx hl
 have hle : (fgK e.past x.marks).length ≤ 1024 := Nat.le_trans (List.length_filter_le _ _) hl
 refine CallA.of pg ord254 Tryz.func254 rfl Tryz.ntmps254 Tryz.results254 rfl fun h0 G0 O0 => ?_
 repeat' (first|refine Sp.h ?_|refine Lk.r rfl ?_|refine Rf.mk rfl ?_|(refine All.mk ?_;intro _)|(apply TkB.r;(focus repeat constructor))|refine Ch.l ⟨rfl, rfl⟩ ?_|fail)
 (apply Cl.use (hf);(focus repeat' (first|exact Lend.nil|apply Lend.keep|fail));(focus (repeat (first|exact Takes.nil|(apply Takes.cons;(focus repeat constructor)))));(focus rfl))
 rintro _ _ ⟨w', rfl⟩
 have ha := add_a v i e m (L.set i ⟨x.put, x.drop, w', fgK e.past x.marks⟩) ⟨x.put, x.drop, w', fgK e.past x.marks⟩ (by rw [List.getElem?_set, if_pos rfl, if_pos hi]) hm hle
 repeat' (first|refine Sp.h ?_|refine Lk.r rfl ?_|refine Rf.mk rfl ?_|(apply TkB.r;(focus repeat constructor))|refine Ch.l ⟨rfl, rfl⟩ ?_|fail)
 (apply Cl.use (ha);(focus repeat' (first|exact Lend.nil|apply Lend.keep|fail));(focus (repeat (first|exact Takes.nil|(apply Takes.cons;(focus repeat constructor)))));(focus rfl))
 rintro _ _ ⟨w2, rfl, rfl⟩
 rw [List.set_set]
 repeat' (first|refine Sp.h ?_|refine Lk.r rfl ?_|(apply Nm.r;focus repeat constructor)|fail)
 exact ⟨_, _, .one (.same (.nil (by (repeat first|exact .nil|refine .cons (by repeat constructor) ?_)))), rfl, w2, rfl⟩
end Go.Proofs.YtmllihbhphnolaaGreat
namespace Go.CF
open Go
theorem ON.refl : ∀ a : Ord, ON a a
 | .done => .done
 | .none => .none
 | .one _ r => .one (ON.refl r)
 | .alt _ r m => .alt (ON.refl r) (ON.refl m)
def altsT (f : Nat → Ord) : List Nat → Ord
 | [] => .none
 | i :: l => .alt i (f i) (altsT f l)
def fillT (rest : Ord) : Nat → List Nat → Ord
 | 0, _ => rest
 | 1, [i] => .one i rest
 | n + 1, ps => altsT (fun i => fillT rest n (ps.erase i)) ps
section
variable {ops : Array Oper} {cl : Nat → Cls}
def arrL (l0 : Array Bool) (ps0 ps : List Nat) : Array Bool := ((List.range l0.size).map fun j => l0.getD j false || (ps0.contains j && !ps.contains j)).toArray
def subsL : List Nat → List (List Nat)
 | [] => [[]]
 | a :: l => (subsL l).map (a :: ·) ++ subsL l
theorem subsL_mem {ps ps0 : List Nat} (h : List.Sublist ps ps0) : ps ∈ subsL ps0 := by
 induction h with
 | slnil => simp [subsL]
 | cons a _ ih => simp [subsL, ih]
 | cons_cons a _ ih => simp [subsL, ih]
def chkM (ops : Array Oper) (cl : Nat → Cls) (rest : Ord) (fuel : Nat) (l0 : Array Bool) (ps0 : List Nat) : Bool :=
 ((subsL ps0).all fun ps => ps.isEmpty || Region.ready .any ops (arrL l0 ps0 ps) == ps) && ps0.all (fun i => acts (cl i) && !l0.getD i true) && chkG ops cl rest fuel true (arrL l0 ps0 [])
theorem arrL_all {l0 : Array Bool} {ps0 : List Nat} : arrL l0 ps0 ps0 = l0 := by
 apply Array.ext_getElem?
 intro j
 simp only [arrL, List.getElem?_toArray, List.getElem?_map, Bool.and_not_self, Bool.or_false]
 by_cases hj : j < l0.size
 ·simp [Array.getD, hj]
 ·simp [hj]
theorem arrL_set {l0 : Array Bool} {ps0 ps : List Nat} {i : Nat} (hn : ps.Nodup) (h0 : i ∈ ps0) (_hi : i ∈ ps) : (arrL l0 ps0 ps).setIfInBounds i true = arrL l0 ps0 (ps.erase i) := by
 apply Array.ext_getElem?
 intro j
 rw [Array.getElem?_setIfInBounds]
 simp only [arrL, List.getElem?_toArray, List.getElem?_map, List.size_toArray, List.length_map, List.length_range]
 by_cases hij : i = j
 ·subst hij
  by_cases hj : i < l0.size
  ·have : (ps.erase i).contains i = false := by simpa using hn.not_mem_erase
   simp [hj, h0, hn.not_mem_erase]
  ·simp [hj]
 ·rw [if_neg hij]
  have hc : (ps.erase i).contains j = ps.contains j := by
   simp only [List.contains_eq_mem, List.mem_erase_of_ne (Ne.symm hij)]
  by_cases hj : j < l0.size
  ·simp only [List.getElem?_range hj, Option.map_some, hc]
  ·simp [hj]
def oneOK (ops : Array Oper) (cl : Nat → Cls) (i : Nat) (listed : Array Bool) : Bool := match cl i with
 | .pure => (Region.ready .any ops listed).contains i && Region.free .any ops listed i
 | .read => (Region.ready .any ops listed).contains i && Region.free .any ops listed i && (List.range ops.size).all fun j => listed.getD j true || !isLoud (cl j) || waitsB ops i ops.size j
 | _ => Region.ready .any ops listed == [i]
theorem chk_one_eq {i : Nat} {r : Ord} {fuel : Nat} {listed : Array Bool} : chkG ops cl (.one i r) (fuel + 1) true listed = (oneOK ops cl i listed && chkG ops cl r fuel true (listed.setIfInBounds i true)) := by
 simp only [chkG, oneOK]
 cases cl i <;> simp
theorem altsT_heads {f : Nat → Ord} : ∀ l, (altsT f l).heads = l
 | [] => rfl
 | i :: l => by simp [altsT, Ord.heads, altsT_heads l]
theorem chk_alts {f : Nat → Ord} {fuel : Nat} {listed : Array Bool} : ∀ {l : List Nat}, (∀ i ∈ l, acts (cl i) = true ∧ chkG ops cl (f i) fuel true (listed.setIfInBounds i true) = true) → chkG ops cl (altsT f l) (fuel + 1) false listed = true
 | [], _ => by simp [altsT, chkG]
 | i :: l, h => by
  simp only [altsT, chkG, Bool.not_false, Bool.true_or, Bool.true_and, Bool.and_eq_true]
  exact ⟨h i (by simp), chk_alts fun j hj => h j (by simp [hj])⟩
theorem chk_fill {rest : Ord} {fuel : Nat} {l0 : Array Bool} {ps0 : List Nat} (hn : ps0.Nodup) (h : chkM ops cl rest fuel l0 ps0 = true) : chkG ops cl (fillT rest ps0.length ps0) (fuel + ps0.length) true l0 = true := by
 simp only [chkM, Bool.and_eq_true, List.all_eq_true, Bool.or_eq_true] at h
 obtain ⟨⟨h1, h2⟩, h3⟩ := h
 have key : ∀ (n : Nat) (ps : List Nat), ps.length = n → List.Sublist ps ps0 → chkG ops cl (fillT rest n ps) (fuel + n) true (arrL l0 ps0 ps) = true := by
  intro n
  induction n with
  | zero =>
   intro ps hl _
   have : ps = [] := List.length_eq_zero_iff.1 hl
   subst this
   exact h3
  | succ n ih =>
   intro ps hl hs
   have hnp : ps.Nodup := List.Sublist.nodup hs hn
   have hready : Region.ready .any ops (arrL l0 ps0 ps) = ps := by
    rcases h1 ps (subsL_mem hs) with h9|h9
    ·rw [List.isEmpty_iff] at h9;subst h9;simp at hl
    ·exact eq_of_beq h9
   have sub : ∀ i ∈ ps, acts (cl i) = true ∧ chkG ops cl (fillT rest n (ps.erase i)) (fuel + n) true ((arrL l0 ps0 ps).setIfInBounds i true) = true := by
    intro i hi
    refine ⟨(h2 i (hs.mem hi)).1, ?_⟩
    rw [arrL_set hnp (hs.mem hi) hi]
    exact ih _ (by rw [List.length_erase_of_mem hi];omega) ((List.erase_sublist).trans hs)
   have gen : 2 ≤ ps.length → chkG ops cl (altsT (fun i => fillT rest n (ps.erase i)) ps) (fuel + n + 1) true (arrL l0 ps0 ps) = true := by
    intro h2l
    match ps, hready, sub with
    | i :: l, hready, sub =>
     simp only [altsT, chkG, altsT_heads, hready, beq_self_eq_true, Bool.or_true, Bool.true_and, Bool.and_eq_true]
     exact ⟨sub i (by simp), chk_alts fun j hj => sub j (by simp [hj])⟩
   match n, ps, hl, gen, sub, hready with
   | 0, [i], _, _, sub, hready =>
    obtain ⟨g1, g2⟩ := sub i (by simp)
    have g3 : oneOK ops cl i (arrL l0 ps0 [i]) = true := by
     revert g1
     unfold oneOK
     cases cl i <;> simp [acts, hready]
    show chkG ops cl (.one i rest) (fuel + 1) true (arrL l0 ps0 [i]) = true
    rw [chk_one_eq, g3]
    simpa [fillT] using g2
   | n + 1, ps, hl, gen, _, _ => exact gen (by omega)
 have := key _ ps0 rfl (List.Sublist.refl _)
 rwa [arrL_all] at this
theorem chk_one {i : Nat} {r : Ord} {fuel : Nat} {listed : Array Bool} (h1 : oneOK ops cl i listed = true) (h2 : chkG ops cl r fuel true (listed.setIfInBounds i true) = true) : chkG ops cl (.one i r) (fuel + 1) true listed = true := by
 rw [chk_one_eq, h1, h2];rfl
end
section
variable {Γ : Cx} {k : List KI} {e : EA} {o : List Res} {ops : Array Oper} {cl : Nat → Cls}
theorem RA'.alts {f : Nat → Ord} : ∀ {ps : List Nat}, (∀ i ∈ ps, RA' Γ k ops cl (.one i (f i)) e o) → RA' Γ k ops cl (altsT f ps) e o
 | [], _ => show RA' Γ k ops cl .none e o from Sp.h (s := True) trivial
 | i :: l, h => show RA' Γ k ops cl (.alt i (f i) (altsT f l)) e o from Sp.h (s := RA' Γ k ops cl (.one i (f i)) e o ∧ RA' Γ k ops cl (altsT f l) e o) ⟨h i (by simp), RA'.alts fun j hj => h j (by simp [hj])⟩
theorem lookL_mem {β : Type} {kvs : List (List Int × β)} (hn : kvs.Pairwise fun a b => a.1 ≠ b.1) {key : List Int} {v : β} (h : (key, v) ∈ kvs) : lookL kvs key = some v := by
 induction kvs with
 | nil => cases h
 | cons a l ih =>
  obtain ⟨h1, h2⟩ := List.pairwise_cons.1 hn
  simp only [lookL, List.find?_cons] at ih ⊢
  rcases List.mem_cons.1 h with rfl|h
  ·simp
  ·have h3 := h1 _ h
   have h4 : decide (a.1 = key) = false := by simpa using h3
   rw [h4]
   exact ih h2 h
theorem lookL_nil {β : Type} {kvs : List (List Int × β)} {key : List Int} (h : ∀ p ∈ kvs, p.1 ≠ key) : lookL kvs key = none := by
 unfold lookL
 rw [List.find?_eq_none.2 fun p hp => by simpa using h p hp]
 rfl
theorem lookL_perm {β : Type} {a b : List (List Int × β)} (hp : a.Perm b) (hn : b.Pairwise fun x y => x.1 ≠ y.1) (key : List Int) : lookL a key = lookL b key := by
 have hna : a.Pairwise fun x y => x.1 ≠ y.1 := hp.symm.pairwise hn fun h => fun h' => h h'.symm
 by_cases h : ∃ v, (key, v) ∈ b
 ·obtain ⟨v, hv⟩ := h
  rw [lookL_mem hn hv, lookL_mem hna (hp.mem_iff.2 hv)]
 ·rw [lookL_nil (kvs := b) (key := key) fun p hp' hk => h ⟨p.2, by subst hk;exact hp'⟩, lookL_nil (kvs := a) (key := key) fun p hp' hk => h ⟨p.2, by subst hk;exact hp.mem_iff.1 hp'⟩]
theorem RA'.fill {β : Type} {b : Nat} {kt : TypeId} {f : β → AV} {rest : Ord} (items : Nat → List Int × β) (ps0 : List Nat) (hnd : (ps0.map items).Pairwise fun x y => x.1 ≠ y.1)
  (hs : ∀ i ∈ ps0, ∀ kvs r, RA' Γ k ops cl r e (mapR Γ.P b kt (updL kvs (items i).1 (items i).2) f :: o) → RA' Γ k ops cl (.one i r) e (mapR Γ.P b kt kvs f :: o))
  (h : ∀ kvs, kvs.Perm (ps0.map items) → RA' Γ k ops cl rest e (mapR Γ.P b kt kvs f :: o)) :
  RA' Γ k ops cl (fillT rest ps0.length ps0) e (mapR Γ.P b kt [] f :: o) := by
 have key : ∀ (n : Nat) (ps : List Nat) (kvs : List (List Int × β)), ps.length = n → (kvs ++ ps.map items).Perm (ps0.map items) → (∀ i ∈ ps, i ∈ ps0) → RA' Γ k ops cl (fillT rest n ps) e (mapR Γ.P b kt kvs f :: o) := by
  intro n
  induction n with
  | zero =>
   intro ps kvs hl hp _
   have : ps = [] := List.length_eq_zero_iff.1 hl
   subst this
   exact h kvs (by simpa using hp)
  | succ n ih =>
   intro ps kvs hl hp hm
   have step : ∀ i ∈ ps, ∀ r, RA' Γ k ops cl r e (mapR Γ.P b kt (kvs ++ [items i]) f :: o) → RA' Γ k ops cl (.one i r) e (mapR Γ.P b kt kvs f :: o) := by
    intro i hi r hr
    refine hs i (hm i hi) kvs r ?_
    have hnk : lookL kvs (items i).1 = none := by
     refine lookL_nil fun p hpm hk => ?_
     have hna : (kvs ++ ps.map items).Pairwise fun x y => x.1 ≠ y.1 := hp.symm.pairwise hnd fun h => fun h' => h h'.symm
     exact (List.pairwise_append.1 hna).2.2 p hpm (items i) (List.mem_map_of_mem hi) hk
    rw [updL_none _ _ _ hnk]
    exact hr
   have sub : ∀ i ∈ ps, RA' Γ k ops cl (fillT rest n (ps.erase i)) e (mapR Γ.P b kt (kvs ++ [items i]) f :: o) := by
    intro i hi
    refine ih _ _ (by rw [List.length_erase_of_mem hi];omega) ?_ fun j hj => hm j (List.mem_of_mem_erase hj)
    refine List.Perm.trans ?_ hp
    rw [List.append_assoc]
    refine List.Perm.append_left kvs ?_
    have := (List.perm_cons_erase hi).map items
    exact this.symm
   have gen : RA' Γ k ops cl (altsT (fun i => fillT rest n (ps.erase i)) ps) e (mapR Γ.P b kt kvs f :: o) := RA'.alts fun i hi => step i hi _ (sub i hi)
   match n, ps, hl, gen, sub, step with
   | 0, [i], _, _, sub, step => exact step i (by simp) _ (sub i (by simp))
   | n + 1, ps, _, gen, _, _ => exact gen
 exact key _ ps0 [] rfl (by simp) fun _ h => h
end
end Go.CF
namespace Go.Proofs.YtmllihbhphnolaaGreat
open Go Go.CF
set_option maxRecDepth 20000
abbrev fnV (g : FuncId) : AV := .fn g []
def rulesL : List (List Int × FuncId) := [([2, 0], 250), ([2, 1], 251), ([3, 0], 252), ([3, 1], 250), ([4, 2], 253), ([5, 2], 254)]
def rulesI (i : Nat) : List Int × FuncId := (rulesL[i / 2 - 1]?).getD ([], 0)
def rulesT : Ord := .one 1 (.one 3 (.one 5 (.one 7 (.one 9 (.one 11 (.one 0 (fillT (.one 13 (.one 14 .done)) 6 [2, 4, 6, 8, 10, 12])))))))
def rulesO : Nat → Ord × (Nat → Cls) := fun id => bif Nat.beq id 1 then (rulesT, clOf [.ext, .pure, .loud, .pure, .loud, .pure, .loud, .pure, .loud, .pure, .loud, .pure, .loud, .pure, .pure]) else (.done, clOf [])
set_option maxHeartbeats 1000000 in
theorem rules_a : CallA Tryz.prog 188 [] [] fun r own => ∃ b kvs, r = .val (.map (some b)) ∧ own = [mapR Tryz.prog b 255 kvs fnV] ∧ ∀ key, lookL kvs key = lookL rulesL key := by
 refine CallA.of pg rulesO Tryz.func188 rfl Tryz.ntmps188 Tryz.results188 rfl fun h0 G0 O0 => ?_
 (repeat' (first|(show CA _ _ (Code.region 1 _ _) _ _;apply Stopped.out)|refine Sp.h ?_|refine Lk.r rfl ?_|refine Rf.mk rfl ?_|fail));any_goals apply Stopped.mk
 apply CA.draw (t := rulesT)
 focus rfl
 focus kernel_rfl
 focus
  show (noDef _ && chkG _ _ rulesT 15 _ _) = true
  rw [Bool.and_eq_true]
  refine ⟨by kernel_rfl, ?_⟩
  refine chk_one (fuel := 14) (by kernel_rfl) (chk_one (fuel := 13) (by kernel_rfl) (chk_one (fuel := 12) (by kernel_rfl) (chk_one (fuel := 11) (by kernel_rfl) (chk_one (fuel := 10) (by kernel_rfl) (chk_one (fuel := 9) (by kernel_rfl) (chk_one (fuel := 8) (by kernel_rfl) ?_))))))
  exact chk_fill (fuel := 2) (ps0 := [2, 4, 6, 8, 10, 12]) (by decide) (by kernel_rfl)
 focus exact ON.refl _
 focus rfl
 unfold rulesT
 repeat' (first|refine Sp.h ?_|refine Lk.r rfl ?_|refine Rf.mk rfl ?_|refine OpK.r rfl ?_|(apply Fk.r;(focus (repeat (first|exact FillA.nil|(apply FillA.agg;(focus rfl);(focus rfl);(focus (repeat (first|exact SetAs.z|(apply SetAs.c;(focus (repeat first|assumption|constructor)))))))|(apply FillA.one;(focus rfl);(focus infer_instance);(focus (repeat first|assumption|constructor)))))))|fail)
 refine MkM.r fnV ?_
 repeat' (first|(refine All.mk ?_;intro _)|fail)
 apply RA'.fill rulesI [2, 4, 6, 8, 10, 12]
 ·decide
 ·intro i hi kvs r h
  simp only [List.mem_cons, List.not_mem_nil, or_false] at hi
  rcases hi with rfl|rfl|rfl|rfl|rfl|rfl
  all_goals repeat' (first|refine Sp.h ?_|refine Lk.r rfl ?_|refine Rf.mk rfl ?_|refine OpK.r rfl ?_|(apply Il.r;(focus repeat (first|apply ILit.cons|exact ILit.nil)))|(apply Kf.mk;(focus kernel_rfl))|(apply TkM.r;(focus repeat constructor))|refine UpV.r rfl ?_|fail)
  all_goals exact h
 ·intro kvs hp
  have hlk : ∀ key, lookL kvs key = lookL rulesL key := fun key => lookL_perm hp (by decide) key
  repeat' (first|refine Sp.h ?_|refine Lk.r rfl ?_|refine OpK.r rfl ?_|(apply Nm.r;focus repeat constructor)|fail)
  exact ⟨_, _, .one (.same (.nil (by (repeat first|exact .nil|refine .cons (by repeat constructor) ?_)))), _, kvs, rfl, rfl, hlk⟩
end Go.Proofs.YtmllihbhphnolaaGreat
namespace Go.Proofs.YtmllihbhphnolaaGreat
open Go Go.CF
set_option maxRecDepth 20000
def cmp2 (a b : MkS) : Int := orI [cmpI a.time b.time, cmpI a.rep b.rep]
noncomputable def lastF (l : List MkS) (m : MkS) : Int × List MkS := match l with
 | [] => addF [] m
 | x :: r => (0, if cmp2 x m < 0 then m :: r else x :: r)
set_option maxHeartbeats 2000000 in
theorem last_a (v : Value) (i : Nat) (e : EvS) (m : MkS) (L : List MgE) (x : MgE) (hx : L[i]? = some x) (hl : x.marks.length ≤ 1024) :
  CallA Tryz.prog 253 [.agg (chC (.oe v 3 i 0) e m)] [arrR v 123 3 L mgeC, mgeR x] fun q own => q = it (lastF x.marks m).1 ∧ ChO v i L x.put x.drop (lastF x.marks m).2 own := by
 have hi := (List.getElem?_eq_some_iff.1 hx).1
 have hsame : L.set i ⟨x.put, x.drop, x.w, x.marks⟩ = L := by
  apply List.ext_getElem?
  intro j
  rw [List.getElem?_set]
  split
  ·rename_i hj;subst hj;first|rw [if_pos hi, hx] | rw [hx]
  ·rfl
 obtain ⟨p, d, w, l⟩ := x
 simp only at hl hsame
 match l, hl, hx, hsame with
 | [], hl, hx, hsame =>
  have ha := add_a v i e m L ⟨p, d, w, []⟩ hx (fun i j a b _ h => by simp at h) hl
  refine CallA.of pg ord253 Tryz.func253 rfl Tryz.ntmps253 Tryz.results253 rfl fun h0 G0 O0 => ?_
  repeat' (first|refine Sp.h ?_|refine Lk.r rfl ?_|refine Rf.mk rfl ?_|(apply Bd.t;(focus first|assumption|omega|rfl))|(refine All.mk ?_;intro _)|(apply TkA.r;(focus repeat constructor))|(apply TkB.r;(focus repeat constructor))|(apply At.r;(focus assumption))|refine Ch.l ⟨rfl, rfl⟩ ?_|fail)
  (apply Cl.use (ha);(focus repeat' (first|exact Lend.nil|apply Lend.keep|fail));(focus (repeat (first|exact Takes.nil|(apply Takes.cons;(focus repeat constructor)))));(focus rfl))
  rintro _ _ ⟨w2, rfl, rfl⟩
  repeat' (first|refine Sp.h ?_|refine Lk.r rfl ?_|(apply Nm.r;focus repeat constructor)|fail)
  exact ⟨_, _, .one (.same (.nil (by (repeat first|exact .nil|refine .cons (by repeat constructor) ?_)))), rfl, w2, rfl⟩
 | y :: r, hl, hx, hsame =>
  have h0 : (y :: r)[0]? = some y := rfl
  have hne : ¬ ((({ put := p, drop := d, w := w, marks := y :: r } : MgE).marks.length : Int) = 0) := by simp only [List.length_cons];omega
  have ho := orI_p [cmpI y.time m.time, cmpI y.rep m.rep]
  by_cases hc : cmp2 y m < 0
  ·have hF : lastF (y :: r) m = (0, m :: r) := by simp [lastF, hc]
   have hc2 : orI [cmpI y.time m.time, cmpI y.rep m.rep] < 0 := hc
   rw [hF]
   refine CallA.of pg ord253 Tryz.func253 rfl Tryz.ntmps253 Tryz.results253 rfl fun h0 G0 O0 => ?_
   repeat' (first|refine Sp.h ?_|refine Lk.r rfl ?_|refine Rf.mk rfl ?_|(apply Bd.f;(focus first|assumption|omega|exact Bool.false_ne_true))|refine OpK.r rfl ?_|(refine All.mk ?_;intro _)|(apply TkA.r;(focus repeat constructor))|(apply TkB.r;(focus repeat constructor))|(apply Ix.q;(focus exact rfl);(focus assumption))|(apply At.r;(focus assumption))|refine Ch.l ⟨rfl, rfl⟩ ?_|(apply SetAsk.r;(focus (repeat (first|exact SetAs.z|(apply SetAs.c;(focus (repeat first|assumption|constructor)))))))|(apply Fk.r;(focus (repeat (first|exact FillA.nil|(apply FillA.agg;(focus rfl);(focus rfl);(focus (repeat (first|exact SetAs.z|(apply SetAs.c;(focus (repeat first|assumption|constructor)))))))|(apply FillA.one;(focus rfl);(focus infer_instance);(focus (repeat first|assumption|constructor)))))))|(apply Nm.r;focus repeat constructor)|refine Rf.mk ⟨rfl, rfl, rfl⟩ ?_|(apply CA.draw;(focus rfl);(focus kernel_rfl);(focus kernel_rfl);(focus repeat' constructor);(focus rfl))|(apply Cl.p (compareI_p _ _);(focus repeat' (first|exact Lend.nil|apply Lend.keep|fail))))
   (apply Cl.lend (ho);(focus repeat' (first|exact Lend.nil|(apply Lend.lendm;(focus repeat constructor);(focus rfl);(focus first|omega|decide|(simp;omega)|exact Nat.le_of_ble_eq_true rfl))|fail)))
   (repeat' (first|(show CA _ _ (Code.region 6 _ _) _ _;apply Stopped.out)|refine Sp.h ?_|refine Lk.r rfl ?_|refine Rf.mk rfl ?_|(apply Bd.t;(focus first|assumption|omega|rfl))|refine OpK.r rfl ?_|(apply TkA.r;(focus repeat constructor))|(apply TkB.r;(focus repeat constructor))|(apply Ix.q;(focus exact rfl);(focus assumption))|(apply At.r;(focus assumption))|refine Ch.r ?_|(apply SetAsk.r;(focus (repeat (first|exact SetAs.z|(apply SetAs.c;(focus (repeat first|assumption|constructor)))))))|refine Up.r rfl ?_|(apply CA.draw;(focus rfl);(focus kernel_rfl);(focus kernel_rfl);(focus repeat' constructor);(focus rfl))|fail));any_goals apply Stopped.mk
   have hmap : (L.set i ⟨p, d, w, m :: r⟩).map mgeC = L.map mgeC := by
    rw [List.map_set]
    show (L.map mgeC).set i (mgeC ⟨p, d, w, y :: r⟩) = L.map mgeC
    rw [← List.map_set, hsame]
   apply CA.retype (v := v) (m := L.set i ⟨p, d, w, m :: r⟩) (g := mgeC)
   focus (repeat constructor)
   focus exact hmap
   repeat' (first|refine Sp.h ?_|refine Lk.r rfl ?_|refine Rf.mk rfl ?_|(apply Nm.r;focus repeat constructor)|fail)
   exact ⟨_, _, .one (.same (.nil (by (repeat first|exact .nil|refine .cons (by repeat constructor) ?_)))), rfl, w, rfl⟩
  ·have hF : lastF (y :: r) m = (0, y :: r) := by simp [lastF, hc]
   have hc2 : ¬ orI [cmpI y.time m.time, cmpI y.rep m.rep] < 0 := hc
   rw [hF]
   refine CallA.of pg ord253 Tryz.func253 rfl Tryz.ntmps253 Tryz.results253 rfl fun h0 G0 O0 => ?_
   repeat' (first|refine Sp.h ?_|refine Lk.r rfl ?_|refine Rf.mk rfl ?_|(apply Bd.f;(focus first|assumption|omega|exact Bool.false_ne_true))|refine OpK.r rfl ?_|(refine All.mk ?_;intro _)|(apply TkA.r;(focus repeat constructor))|(apply TkB.r;(focus repeat constructor))|(apply Ix.q;(focus exact rfl);(focus assumption))|(apply At.r;(focus assumption))|refine Ch.l ⟨rfl, rfl⟩ ?_|(apply SetAsk.r;(focus (repeat (first|exact SetAs.z|(apply SetAs.c;(focus (repeat first|assumption|constructor)))))))|(apply Fk.r;(focus (repeat (first|exact FillA.nil|(apply FillA.agg;(focus rfl);(focus rfl);(focus (repeat (first|exact SetAs.z|(apply SetAs.c;(focus (repeat first|assumption|constructor)))))))|(apply FillA.one;(focus rfl);(focus infer_instance);(focus (repeat first|assumption|constructor)))))))|(apply Nm.r;focus repeat constructor)|refine Rf.mk ⟨rfl, rfl, rfl⟩ ?_|(apply CA.draw;(focus rfl);(focus kernel_rfl);(focus kernel_rfl);(focus repeat' constructor);(focus rfl))|(apply Cl.p (compareI_p _ _);(focus repeat' (first|exact Lend.nil|apply Lend.keep|fail))))
   (apply Cl.lend (ho);(focus repeat' (first|exact Lend.nil|(apply Lend.lendm;(focus repeat constructor);(focus rfl);(focus first|omega|decide|(simp;omega)|exact Nat.le_of_ble_eq_true rfl))|fail)))
   repeat' (first|refine Sp.h ?_|refine Lk.r rfl ?_|refine Rf.mk rfl ?_|(apply Bd.f;(focus first|assumption|omega|exact Bool.false_ne_true))|refine OpK.r rfl ?_|(apply Nm.r;focus repeat constructor)|fail)
   all_goals exact ⟨_, _, .one (.same (.nil (by (repeat first|exact .nil|refine .cons (by repeat constructor) ?_)))), rfl, w, congrArg (fun z => [arrR v 123 3 z mgeC, arrR w 125 4 (y :: r) mkC]) (hsame).symm⟩
end Go.Proofs.YtmllihbhphnolaaGreat
namespace Go.Proofs.YtmllihbhphnolaaGreat
open Go Go.CF
set_option maxRecDepth 20000
def EvV (m : ModS) (n : Int) (e : EvS) : Prop := FormedE e ∧ (e.past.length : Int) = n ∧ (e.kind = 0 → e.action < (m.acts.length : Nat))
noncomputable instance (m : ModS) (n : Int) (e : EvS) : Decidable (EvV m n e) := Classical.propDecidable _
theorem evalid_p (m : ModS) (n : Int) (e : EvS) : CallP Tryz.prog 80 [mdl m, it n, evA' e] (bl (decide (EvV m n e))) := by
 have hf := formed_p e
 refine CallA.of pg ord80 Tryz.func80 rfl Tryz.ntmps80 Tryz.results80 rfl fun h0 G0 O0 => ?_
 repeat' (first|refine Sp.h ?_|refine Lk.r rfl ?_|refine Rf.mk rfl ?_|(apply Bd.t;(focus first|assumption|omega|rfl))|(apply Bd.f;(focus first|assumption|omega|exact Bool.false_ne_true))|(refine Bd.mk ?_ ?_ <;> intro _)|(refine Im.mk ?_;intro _)|(refine All.mk ?_;intro _)|(apply TkB.r;(focus repeat constructor))|refine Ch.l ⟨rfl, rfl⟩ ?_|(apply Nm.r;focus repeat constructor)|(apply Cl.p (hf);(focus repeat' (first|exact Lend.nil|apply Lend.keep|fail))))
 all_goals refine Fin.p rfl (vb ?_)
 all_goals first
  | exact (decide_eq_false (fun h => by
    obtain ⟨h1, h2, h3⟩ := h
    first
     | exact absurd h1 (by assumption)
     | omega)).symm
  | exact (decide_eq_true ⟨by assumption, by omega, by omega⟩).symm
  | exact decide_eq_decide.2 ⟨fun h => ⟨by assumption, by omega, by omega⟩, fun h => by
    obtain ⟨h1, h2, h3⟩ := h
    omega⟩
  | skip
abbrev UpS := Int × Int × Int
def updF (us : List UpS) (c : Int) : Option UpS := us.reverse.find? fun u => decide (u.2.1 = c)
def updT (us : List UpS) : List (List Int × UpS) := us.foldl (fun kvs u => updL kvs [u.2.1] u) []
theorem updT_look (us : List UpS) (c : Int) : lookL (updT us) [c] = updF us c := by
 have key : ∀ us : List UpS, lookL (updT us.reverse) [c] = updF us.reverse c := by
  intro us
  induction us with
  | nil => rfl
  | cons u us ih =>
   rw [List.reverse_cons, updT, List.foldl_append, updF, List.reverse_append]
   simp only [List.foldl_cons, List.foldl_nil, List.reverse_cons, List.reverse_nil, List.nil_append, List.cons_append, List.find?_cons]
   rw [lookL_upd]
   by_cases h : u.2.1 = c
   ·simp [h]
   ·have h2 : ¬ [c] = [u.2.1] := by simpa using fun h9 : c = u.2.1 => h h9.symm
    rw [if_neg h2]
    simp only [h, decide_false]
    exact ih
 have := key us.reverse
 rwa [List.reverse_reverse] at this
theorem rules_cases (a b : Int) : lookL rulesL [a, b] = none ∨ (a = 2 ∧ b = 0 ∧ lookL rulesL [a, b] = some 250) ∨ (a = 2 ∧ b = 1 ∧ lookL rulesL [a, b] = some 251) ∨ (a = 3 ∧ b = 0 ∧ lookL rulesL [a, b] = some 252)
  ∨ (a = 3 ∧ b = 1 ∧ lookL rulesL [a, b] = some 250) ∨ (a = 4 ∧ b = 2 ∧ lookL rulesL [a, b] = some 253) ∨ (a = 5 ∧ b = 2 ∧ lookL rulesL [a, b] = some 254) := by
 cases h : lookL rulesL [a, b] with
 | none => exact .inl rfl
 | some g =>
  refine .inr ?_
  have hm := List.mem_of_find?_eq_some (p := fun p : List Int × FuncId => decide (p.1 = [a, b])) (l := rulesL) (a := ([a, b], g)) (by
   unfold lookL at h
   cases h9 : rulesL.find? (fun p => decide (p.1 = [a, b])) with
   | none => rw [h9] at h;cases h
   | some q =>
    rw [h9] at h
    have h1 : q.1 = [a, b] := by simpa using List.find?_some h9
    have h2 : q.2 = g := by simpa using h
    rw [← h1, ← h2])
  simp only [rulesL, List.mem_cons, Prod.mk.injEq, List.cons.injEq, List.not_mem_nil, or_false, and_true] at hm
  rcases hm with ⟨⟨h1, h2⟩, h3⟩|⟨⟨h1, h2⟩, h3⟩|⟨⟨h1, h2⟩, h3⟩|⟨⟨h1, h2⟩, h3⟩|⟨⟨h1, h2⟩, h3⟩|⟨⟨h1, h2⟩, h3⟩ <;> subst h1 <;> subst h2 <;> subst h3 <;> simp
theorem LtK.trans {a b c : MkS} (h1 : LtK a b) (h2 : LtK b c) : LtK a c := by unfold LtK at *;omega
theorem LtK.cotrans {a b : MkS} (c : MkS) (h : LtK a b) : LtK a c ∨ LtK c b := by unfold LtK at *;omega
def SrtK (l : List MkS) : Prop := l.Pairwise fun a b => ¬ LtK b a
theorem SrtK.mono {l : List MkS} (h : SrtK l) (m : MkS) : MonoK l m := by
 intro i j a b hij ha hb hlt
 rcases Nat.lt_or_ge i j with h1|h1
 ·have hi := (List.getElem?_eq_some_iff.1 ha)
  have hj := (List.getElem?_eq_some_iff.1 hb)
  have := List.pairwise_iff_getElem.1 h i j hi.1 hj.1 h1
  rw [hi.2, hj.2] at this
  rcases hlt.cotrans a with h2|h2
  ·exact absurd h2 this
  ·exact h2
 ·have : i = j := by omega
  subst this
  rw [ha] at hb;cases hb;exact hlt
theorem srt_of {l : List MkS} (h : ∀ (i : Nat) (x y : MkS), l[i]? = some x → l[i + 1]? = some y → ¬ LtK y x) : SrtK l := by
 induction l with
 | nil => exact List.Pairwise.nil
 | cons a l ih =>
  have hl : SrtK l := ih fun i x y hx hy => h (i + 1) x y hx hy
  refine List.pairwise_cons.2 ⟨fun b hb => ?_, hl⟩
  match l, hl, h with
  | [], _, _ => cases hb
  | c :: l, hl, h =>
   have h0 := h 0 a c rfl rfl
   rcases List.mem_cons.1 hb with rfl|hb
   ·exact h0
   ·have h1 := (List.pairwise_cons.1 hl).1 b hb
    intro h2
    rcases h2.cotrans c with h3|h3
    ·exact h1 h3
    ·exact h0 h3
theorem ValG.srt {t : TblS} {g : MgS} (h : ValG t g) : SrtK g.marks := by
 refine srt_of fun i x y hx hy => ?_
 have hi := (List.getElem?_eq_some_iff.1 hy).1
 exact (h.2 (i + 1) y hi hy).2.2 x (by omega) (by simpa using hx)
theorem SrtK.filter {l : List MkS} (h : SrtK l) (p : MkS → Bool) : SrtK (l.filter p) := List.Pairwise.filter p h
noncomputable def cellF (e : EvS) (t : TblS) (u : Option UpS) (g : MgS) : Int × MgS := match u with
 | none => (0, g)
 | some u =>
  let m : MkS := ⟨e.rep, e.num, e.time, if isReg t.kind then u.2.2 else 0⟩
  if t.kind = 2 ∧ u.1 = 0 ∨ t.kind = 3 ∧ u.1 = 1 then ((addF g.marks m).1, ⟨g.put, g.drop, (addF g.marks m).2⟩)
  else if t.kind = 2 ∧ u.1 = 1 then (0, ⟨false, g.drop, fgK e.past g.marks⟩)
  else if t.kind = 3 ∧ u.1 = 0 then (0, ⟨true, false, fgK e.past g.marks⟩)
  else if t.kind = 4 ∧ u.1 = 2 then ((lastF g.marks m).1, ⟨g.put, g.drop, (lastF g.marks m).2⟩)
  else if t.kind = 5 ∧ u.1 = 2 then ((addF (fgK e.past g.marks) m).1, ⟨g.put, g.drop, (addF (fgK e.past g.marks) m).2⟩)
  else (0, g)
end Go.Proofs.YtmllihbhphnolaaGreat
namespace Go.Proofs.YtmllihbhphnolaaGreat
open Go Go.CF
set_option maxRecDepth 20000
instance {v : Value} {sz j r : Nat} : OneA (.oe v sz j r) := ⟨by rintro h G u ⟨b, o, len, cap, _, rfl⟩;rfl⟩
def usF (m : ModS) (e : EvS) : List UpS := match m.acts[e.action.toNat]? with
 | some a => a.eff.updates
 | none => []
noncomputable def cellsF (ts : List TblS) (l : List MgS) (us : List UpS) (e : EvS) : List (Int × MgS) := (List.range l.length).map fun (i : Nat) => match ts[i]?, l[i]? with
 | some t, some g => cellF e t (updF us i) g
 | _, _ => (0, ⟨false, false, []⟩)
theorem cellsF_at {ts : List TblS} {l : List MgS} {us : List UpS} {e : EvS} {i : Nat} {t : TblS} {g : MgS} (ht : ts[i]? = some t) (hg : l[i]? = some g) : (cellsF ts l us e)[i]? = some (cellF e t (updF us i) g) := by
 have hi := (List.getElem?_eq_some_iff.1 hg).1
 rw [cellsF, List.getElem?_map, List.getElem?_range hi, Option.map_some, ht, hg]
theorem cellsF_len {ts : List TblS} {l : List MgS} {us : List UpS} {e : EvS} : (cellsF ts l us e).length = l.length := by simp [cellsF]
noncomputable def gatherF (C : List (Int × MgS)) : Int × List MgS := match C.find? fun p => decide (p.1 ≠ 0 ∧ p.1 ≠ 8) with
 | some p => (p.1, [])
 | none => if ∃ p ∈ C, p.1 = 8 then (8, []) else (0, C.map (·.2))
noncomputable def applyF (m : ModS) (l : List MgS) (e : EvS) : Int × List MgS :=
 if ¬ (ValL (mrgF m) l ∧ EvV m (e.past.length : Nat) e) then (1, [])
 else if e.kind ≠ 0 then (0, l)
 else gatherF (cellsF (mrgF m) l (usF m e) e)
theorem updT_succ {us : List UpS} {i : Nat} {u : UpS} (h : us[i]? = some u) : updT (us.take (i + 1)) = updL (updT (us.take i)) [u.2.1] u := by
 rw [List.take_add_one, h, updT, List.foldl_append];rfl
theorem gather_bad {C : List (Int × MgS)} {i : Nat} {q : Int × MgS} (hq : C[i]? = some q) (h1 : ∀ p ∈ C.take i, p.1 = 0 ∨ p.1 = 8) (h2 : q.1 ≠ 0) (h3 : q.1 ≠ 8) : gatherF C = (q.1, []) := by
 have hf : C.find? (fun p => decide (p.1 ≠ 0 ∧ p.1 ≠ 8)) = some q := find_at hq (by simp [h2, h3]) fun j y hj hy => by
  have := h1 y (List.mem_of_getElem? (i := j) (by rw [List.getElem?_take, if_pos hj];exact hy))
  rcases this with h|h <;> simp [h]
 rw [gatherF, hf]
theorem gather_end {C : List (Int × MgS)} (h1 : ∀ p ∈ C, p.1 = 0 ∨ p.1 = 8) : gatherF C = if ∃ p ∈ C, p.1 = 8 then (8, []) else (0, C.map (·.2)) := by
 have hf : C.find? (fun p => decide (p.1 ≠ 0 ∧ p.1 ≠ 8)) = none := List.find?_eq_none.2 fun p hp => by
  rcases h1 p hp with h|h <;> simp [h]
 rw [gatherF, hf]
theorem cellF_none {e : EvS} {t : TblS} {u : UpS} {g : MgS} (h : lookL rulesL [t.kind, u.1] = none) : cellF e t (some u) g = (0, g) := by
 have no : ∀ a b : Int, t.kind = a ∧ u.1 = b → lookL rulesL [a, b] = none := fun a b ⟨h1, h2⟩ => by rw [← h1, ← h2];exact h
 have n1 : ¬ (t.kind = 2 ∧ u.1 = 0) := fun h9 => absurd (no _ _ h9) (by decide)
 have n2 : ¬ (t.kind = 3 ∧ u.1 = 1) := fun h9 => absurd (no _ _ h9) (by decide)
 have n3 : ¬ (t.kind = 2 ∧ u.1 = 1) := fun h9 => absurd (no _ _ h9) (by decide)
 have n4 : ¬ (t.kind = 3 ∧ u.1 = 0) := fun h9 => absurd (no _ _ h9) (by decide)
 have n5 : ¬ (t.kind = 4 ∧ u.1 = 2) := fun h9 => absurd (no _ _ h9) (by decide)
 have n6 : ¬ (t.kind = 5 ∧ u.1 = 2) := fun h9 => absurd (no _ _ h9) (by decide)
 simp only [cellF, n1, n2, n3, n4, n5, n6, or_self, if_false]
def ApK (q : Int × List MgS) (r : AV) (own : List Res) : Prop :=
 (∃ v L, q.1 = 0 ∧ r = .tup [.ow v, it 0] ∧ own = outR v L ∧ L.map MgE.g = q.2) ∨ (q.1 ≠ 0 ∧ r = .tup [.val (.slice none 0 0), it q.1] ∧ own = [])
set_option maxHeartbeats 4000000 in
theorem apply_a (m : ModS) (l : List MgS) (e : EvS) (hm : MOK m) : CallA Tryz.prog 131 [mdl m, mgs l, evA' e] [] (ApK (applyF m l e)) := by
 have hva := validM_p m l hm.lay
 have hev := evalid_p m (e.past.length : Nat) e
 by_cases hv : ValL (mrgF m) l ∧ EvV m (e.past.length : Nat) e
 rotate_left
 ·have hF : applyF m l e = (1, []) := if_pos hv
  rw [hF]
  refine CallA.of pg ord131 Tryz.func131 rfl Tryz.ntmps131 Tryz.results131 rfl fun h0 G0 O0 => ?_
  by_cases h1 : ValL (mrgF m) l
  ·have h2 : ¬ EvV m (e.past.length : Nat) e := fun h => hv ⟨h1, h⟩
   repeat' (first|refine Sp.h ?_|refine Lk.r rfl ?_|refine Rf.mk rfl ?_|(apply Bd.t;(focus first|assumption|omega|rfl))|(apply Bd.f;(focus first|assumption|omega|exact Bool.false_ne_true))|(refine Im.mk ?_;intro _)|(refine All.mk ?_;intro _)|(apply TkB.r;(focus repeat constructor))|refine Ch.l ⟨rfl, rfl⟩ ?_|(apply Nm.r;focus repeat constructor)|(apply Cl.p (hva);(focus repeat' (first|exact Lend.nil|apply Lend.keep|fail)))|(apply Cl.p (hev);(focus repeat' (first|exact Lend.nil|apply Lend.keep|fail))))
   exact ⟨_, _, .tup (.same (.same (.nil (by (repeat first|exact .nil|refine .cons (by repeat constructor) ?_))))), .inr ⟨by decide, rfl, rfl⟩⟩
  ·repeat' (first|refine Sp.h ?_|refine Lk.r rfl ?_|refine Rf.mk rfl ?_|(apply Bd.f;(focus first|assumption|omega|exact Bool.false_ne_true))|(refine All.mk ?_;intro _)|(apply TkB.r;(focus repeat constructor))|refine Ch.l ⟨rfl, rfl⟩ ?_|(apply Nm.r;focus repeat constructor)|(apply Cl.p (hva);(focus repeat' (first|exact Lend.nil|apply Lend.keep|fail)))|(apply Cl.p (hev);(focus repeat' (first|exact Lend.nil|apply Lend.keep|fail))))
   exact ⟨_, _, .tup (.same (.same (.nil (by (repeat first|exact .nil|refine .cons (by repeat constructor) ?_))))), .inr ⟨by decide, rfl, rfl⟩⟩
 obtain ⟨h1, h2⟩ := hv
 have hl : l.length ≤ 20 := by have := h1.1;have := hm.mrg;omega
 have hg : ∀ (i : Nat) g, l[i]? = some g → ∃ t, (mrgF m)[i]? = some t ∧ ValG t g := fun i g hi => by
  obtain ⟨t, ht⟩ := get_of (l := mrgF m) (i := i) (by have := h1.1;have := (List.getElem?_eq_some_iff.1 hi).1;omega)
  exact ⟨t, ht, h1.2 i t g ht hi⟩
 have hcl := clone34_a l (by omega) (fun g hgm => by
  obtain ⟨i, hi⟩ := List.getElem?_of_mem hgm
  obtain ⟨t, _, hv⟩ := hg i g hi
  have := hv.1.2.2.2
  omega)
 have hce := cells_p m hm.lay
 have hru := rules_a
 by_cases hk : e.kind = 0
 rotate_left
 ·have hF : applyF m l e = (0, l) := by rw [applyF, if_neg (fun h => h ⟨h1, h2⟩), if_pos hk]
  rw [hF]
  refine CallA.of pg ord131 Tryz.func131 rfl Tryz.ntmps131 Tryz.results131 rfl fun h0 G0 O0 => ?_
  repeat' (first|refine Sp.h ?_|refine Lk.r rfl ?_|refine Rf.mk rfl ?_|(apply Bd.t;(focus first|assumption|omega|rfl))|(refine Im.mk ?_;intro _)|(refine All.mk ?_;intro _)|(apply TkB.r;(focus repeat constructor))|refine Ch.l ⟨rfl, rfl⟩ ?_|(apply Cl.p (hva);(focus repeat' (first|exact Lend.nil|apply Lend.keep|fail)))|(apply Cl.p (hev);(focus repeat' (first|exact Lend.nil|apply Lend.keep|fail))))
  (apply Cl.use (hcl);(focus repeat' (first|exact Lend.nil|apply Lend.keep|fail));(focus (repeat (first|exact Takes.nil|(apply Takes.cons;(focus repeat constructor)))));(focus rfl))
  rintro _ _ ⟨v, L, rfl, hL, rfl⟩
  repeat' (first|refine Sp.h ?_|refine Lk.r rfl ?_|refine Rf.mk rfl ?_|(apply Bd.f;(focus first|assumption|omega|exact Bool.false_ne_true))|(apply TkB.r;(focus repeat constructor))|(apply Nm.r;focus repeat constructor)|fail)
  exact ⟨_, _, .tup (.same (.same (.nil (by (repeat first|exact .nil|refine .cons (by repeat constructor) ?_))))), .inl ⟨v, L, rfl, rfl, rfl, hL⟩⟩
 have hF : applyF m l e = gatherF (cellsF (mrgF m) l (usF m e) e) := by rw [applyF, if_neg (fun h => h ⟨h1, h2⟩), if_neg (fun h => h hk)]
 rw [hF]
 have ha1 : 0 ≤ e.action := by
  have h9 := h2.1.2.2.2.2.2
  simp only [KindOK, Sub0, Btw] at h9
  omega
 have ha2 := h2.2.2 hk
 obtain ⟨a, ha⟩ := get_of (l := m.acts) (i := e.action.toNat) (by omega)
 obtain ⟨n, hn⟩ : ∃ n : Nat, e.action = n := ⟨e.action.toNat, by omega⟩
 have hus : usF m e = a.eff.updates := by rw [usF, ha]
 rw [hn] at ha
 rw [hus]
 have ha3 : m.acts[n]? = some a := by simpa using ha
 refine CallA.of pg ord131 Tryz.func131 rfl Tryz.ntmps131 Tryz.results131 rfl fun h0 G0 O0 => ?_
 repeat' (first|refine Sp.h ?_|refine Lk.r rfl ?_|refine Rf.mk rfl ?_|(apply Bd.t;(focus first|assumption|omega|rfl))|(refine Im.mk ?_;intro _)|(refine All.mk ?_;intro _)|(apply TkB.r;(focus repeat constructor))|refine Ch.l ⟨rfl, rfl⟩ ?_|(apply Cl.p (hva);(focus repeat' (first|exact Lend.nil|apply Lend.keep|fail)))|(apply Cl.p (hev);(focus repeat' (first|exact Lend.nil|apply Lend.keep|fail))))
 (apply Cl.use (hcl);(focus repeat' (first|exact Lend.nil|apply Lend.keep|fail));(focus (repeat (first|exact Takes.nil|(apply Takes.cons;(focus repeat constructor)))));(focus rfl))
 rintro _ _ ⟨v, L0, rfl, hL, rfl⟩
 repeat' (first|refine Sp.h ?_|refine Lk.r rfl ?_|refine Rf.mk rfl ?_|(apply Bd.t;(focus first|assumption|omega|rfl))|(apply TkB.r;(focus repeat constructor))|refine Ch.l ⟨rfl, rfl⟩ ?_|(apply Cl.p (hce);(focus repeat' (first|exact Lend.nil|apply Lend.keep|fail))))
 (apply Cl.use (hru);(focus repeat' (first|exact Lend.nil|fail));(focus (repeat (first|exact Takes.nil|(apply Takes.cons;(focus repeat constructor)))));(focus rfl))
 rintro _ _ ⟨br, kvs, rfl, rfl, hlk⟩
 repeat' (first|refine Sp.h ?_|refine Lk.r rfl ?_|refine Rf.mk rfl ?_|fail)
 refine MkM.r (fun u : UpS => AV.agg (updC u)) ?_
 repeat' (first|refine Sp.h ?_|refine Lk.r rfl ?_|refine Rf.mk rfl ?_|(refine Im.mk ?_;intro _)|(refine All.mk ?_;intro _)|(apply TkB.r;(focus repeat constructor))|(apply Ix.r;(focus assumption);(focus omega))|fail)
 refine CA.loop (fun i : Nat => ⟨[(5, pm _), (8, .ow v), (9, tbls (mrgF m)), (10, .val (.map (some br))), (11, .val (.map (some _))), (12, bl false), (53, .sl 3 a.eff.updates updC), (54, it (a.eff.updates.length : Nat)), (55, it i)],
   [arrR v 123 3 L0 mgeC, bunR (L0.map mgeR), mapR Tryz.prog br 255 kvs fnV, mapR Tryz.prog _ 3 (updT (a.eff.updates.take i)) (fun u : UpS => AV.agg (updC u)), blkR _ 37 (evC e)]⟩)
  (fun i => i ≤ a.eff.updates.length) (fun i => a.eff.updates.length - i) 0 ⟨by repeat first|trivial|refine ⟨rfl,?_⟩,by repeat first|exact .nil|refine .cons (by repeat constructor) ?_⟩ (Nat.zero_le _) ?_
 intro i hi
 by_cases hin : i < a.eff.updates.length
 ·obtain ⟨u, hu⟩ := get_of hin
  have hsu := updT_succ hu
  repeat' (first|refine Sp.h ?_|refine Lk.r rfl ?_|refine Rf.mk rfl ?_|(apply Bd.t;(focus first|assumption|omega|rfl))|(refine All.mk ?_;intro _)|(apply TkB.r;(focus repeat constructor))|(apply Ix.q;(focus exact rfl);(focus assumption))|refine Ch.l ⟨rfl, rfl⟩ ?_|(apply SetAsk.r;(focus (repeat (first|exact SetAs.z|(apply SetAs.c;(focus (repeat first|assumption|constructor)))))))|(apply Nm.r;focus repeat constructor)|(apply Kf.mk;(focus kernel_rfl))|(apply TkM.r;(focus repeat constructor))|refine UpV.r rfl ?_|(apply Ov.n;(focus first|omega|(simp <;> omega)))|fail)
  rw [← hsu]
  exact PA.lp (i + 1) ⟨by repeat first|trivial|refine ⟨rfl,?_⟩,by repeat first|exact .nil|refine .cons (by repeat constructor) ?_⟩ ⟨hin, by omega⟩
 ·have hie : i = a.eff.updates.length := by omega
  subst hie
  rw [List.take_length]
  have hlen : (mrgF m).length = l.length := h1.1
  obtain ⟨C, hC⟩ : ∃ C, C = cellsF (mrgF m) l a.eff.updates e := ⟨_, rfl⟩
  rw [← hC]
  (repeat' (first|(show CA _ _ (Code.region 13 _ _) _ _;apply Stopped.out)|refine Sp.h ?_|refine Lk.r rfl ?_|refine Rf.mk rfl ?_|(apply Bd.f;(focus first|assumption|omega|exact Bool.false_ne_true))|fail));any_goals apply Stopped.mk
  refine CA.sub ⟨[(5, pm _), (8, .ow v), (9, tbls (mrgF m)), (10, .val (.map (some br))), (11, .val (.map (some _))), (12, bl false)],
   [arrR v 123 3 L0 mgeC, bunR (L0.map mgeR), mapR Tryz.prog br 255 kvs fnV, mapR Tryz.prog _ 3 (updT a.eff.updates) (fun u : UpS => AV.agg (updC u)), blkR _ 37 (evC e)]⟩ ⟨by repeat first|trivial|refine ⟨rfl,?_⟩,by repeat first|exact .nil|refine .cons (by repeat constructor) ?_⟩ ?_
  repeat' (first|refine Sp.h ?_|refine Lk.r rfl ?_|refine Rf.mk rfl ?_|(refine Im.mk ?_;intro _)|fail)
  rename_i b5 _ bu _ _
  refine CA.loop (fun x : Nat × List MgE × Bool => ⟨[(5, pm b5), (8, .ow v), (10, .val (.map (some br))), (11, .val (.map (some bu))), (12, bl x.2.2), (64, tbls (mrgF m)), (65, it ((mrgF m).length : Nat)), (66, it x.1)],
    [arrR v 123 3 x.2.1 mgeC, bunR (x.2.1.map mgeR), mapR Tryz.prog br 255 kvs fnV, mapR Tryz.prog bu 3 (updT a.eff.updates) (fun u : UpS => AV.agg (updC u)), blkR b5 37 (evC e)]⟩)
   (fun x => x.1 ≤ l.length ∧ x.2.1.map MgE.g = (C.take x.1).map (·.2) ++ l.drop x.1 ∧ (∀ p ∈ C.take x.1, p.1 = 0 ∨ p.1 = 8) ∧ (x.2.2 = true ↔ ∃ p ∈ C.take x.1, p.1 = 8)) (fun x => l.length - x.1) (0, L0, false) ⟨by repeat first|trivial|refine ⟨rfl,?_⟩,by repeat first|exact .nil|refine .cons (by repeat constructor) ?_⟩ ⟨Nat.zero_le _, by simpa using hL, by simp, by simp⟩ ?_
  rintro ⟨i, D, lg⟩ ⟨g1, g2, g3, g4⟩
  simp only at g1 g2 g3 g4
  simp only
  by_cases hin : i < l.length
  ·obtain ⟨g, hgi⟩ := get_of hin
   obtain ⟨t, hti, hvg⟩ := hg i g hgi
   have hq : C[i]? = some (cellF e t (updF a.eff.updates i) g) := by rw [hC];exact cellsF_at hti hgi
   have htl : (C.take i).length = i := by have := (List.getElem?_eq_some_iff.1 hq).1;simp;omega
   have hDi : (D.map MgE.g)[i]? = some g := by
    rw [g2, List.getElem?_append_right (by simp;omega), List.getElem?_drop, List.length_map, htl]
    simpa using hgi
   obtain ⟨x, hx, hxg⟩ : ∃ x, D[i]? = some x ∧ x.g = g := by
    rw [List.getElem?_map] at hDi
    cases hd : D[i]? with
    | none => rw [hd] at hDi;cases hDi
    | some x => rw [hd] at hDi;exact ⟨x, rfl, by simpa using hDi⟩
   have hDl := (List.getElem?_eq_some_iff.1 hx).1
   have hml : x.marks.length ≤ 1024 := by have := hvg.1.2.2.2;rw [← hxg] at this;exact this
   have hsrt : SrtK x.marks := by have := hvg.srt;rw [← hxg] at this;exact this
   have hreg := register_p t
   have hlu := updT_look a.eff.updates i
   have hbad : ∀ c y, cellF e t (updF a.eff.updates i) g = (c, y) → c ≠ 0 → c ≠ 8 → gatherF C = (c, []) := fun c y h h0 h8 => gather_bad (h ▸ hq) g3 h0 h8
   have hsame : D.set i x = D := by
    apply List.ext_getElem?
    intro j
    rw [List.getElem?_set]
    split
    ·rename_i hj;subst hj;first|rw [if_pos hDl, hx] | rw [hx]
    ·rfl
   (repeat' (first|(show CA _ _ (Code.block 3 _) _ _;apply Stopped.out)|refine Sp.h ?_|refine Lk.r rfl ?_|refine Rf.mk rfl ?_|(apply Bd.t;(focus first|assumption|omega|rfl))|fail));any_goals apply Stopped.mk
   apply CA.bunTake (l := D) (g := mgeR) (i := i) (x := x)
   focus (repeat constructor)
   focus exact hx
   refine CA.cut (fun p : List MgE × MgE × Bool => ⟨[(5, pm b5), (8, .ow v), (10, .val (.map (some br))), (11, .val (.map (some bu))), (12, bl p.2.2), (64, tbls (mrgF m)), (65, it ((mrgF m).length : Nat)), (66, it i)],
    [arrR v 123 3 p.1 mgeC, mgeR p.2.1, bunR ((D.eraseIdx i).map mgeR), mapR Tryz.prog br 255 kvs fnV, mapR Tryz.prog bu 3 (updT a.eff.updates) (fun u : UpS => AV.agg (updC u)), blkR b5 37 (evC e)]⟩)
    (fun p => p.1 = D.set i p.2.1 ∧ p.2.1.g = (cellF e t (updF a.eff.updates i) g).2 ∧ ((cellF e t (updF a.eff.updates i) g).1 = 0 ∧ p.2.2 = lg ∨ (cellF e t (updF a.eff.updates i) g).1 = 8 ∧ p.2.2 = true)) ?_ ?_
   ·cases hup : updF a.eff.updates i with
    | none =>
     rw [hup] at hlu
     rcases hz : lookL rulesL [t.kind, 0] with _|f0
     ·rw [← hlk] at hz
      repeat' (first|refine Sp.h ?_|refine Lk.r rfl ?_|refine Rf.mk rfl ?_|(apply Bd.f;(focus first|assumption|omega|exact Bool.false_ne_true))|(refine All.mk ?_;intro _)|(apply TkB.r;(focus repeat constructor))|(apply Ix.q;(focus exact rfl);(focus assumption))|refine Ch.l ⟨rfl, rfl⟩ ?_|(apply SetAsk.r;(focus (repeat (first|exact SetAs.z|(apply SetAs.c;(focus (repeat first|assumption|constructor)))))))|(apply Fk.r;(focus (repeat (first|exact FillA.nil|(apply FillA.agg;(focus rfl);(focus rfl);(focus (repeat (first|exact SetAs.z|(apply SetAs.c;(focus (repeat first|assumption|constructor)))))))|(apply FillA.one;(focus rfl);(focus infer_instance);(focus (repeat first|assumption|constructor)))))))|(apply Nm.r;focus repeat constructor)|(apply Il.r;(focus repeat (first|apply ILit.cons|exact ILit.nil)))|(apply Kf.mk;(focus kernel_rfl))|(apply TkM.r;(focus repeat constructor))|(apply Zx.agg;(focus rfl);(focus rfl);(focus repeat constructor))|apply Zx.one|(apply LkM.n;(focus first|assumption|rfl))|fail)
      all_goals exact PA.lp (D, x, lg) ⟨by repeat first|trivial|refine ⟨rfl,?_⟩,by repeat first|exact .nil|refine .cons (by repeat constructor) ?_⟩ ⟨hsame.symm, hxg, .inl ⟨rfl, rfl⟩⟩
     ·rw [← hlk] at hz
      repeat' (first|refine Sp.h ?_|refine Lk.r rfl ?_|refine Rf.mk rfl ?_|(apply Bd.f;(focus first|assumption|omega|exact Bool.false_ne_true))|(refine All.mk ?_;intro _)|(apply TkB.r;(focus repeat constructor))|(apply Ix.q;(focus exact rfl);(focus assumption))|refine Ch.l ⟨rfl, rfl⟩ ?_|(apply SetAsk.r;(focus (repeat (first|exact SetAs.z|(apply SetAs.c;(focus (repeat first|assumption|constructor)))))))|(apply Fk.r;(focus (repeat (first|exact FillA.nil|(apply FillA.agg;(focus rfl);(focus rfl);(focus (repeat (first|exact SetAs.z|(apply SetAs.c;(focus (repeat first|assumption|constructor)))))))|(apply FillA.one;(focus rfl);(focus infer_instance);(focus (repeat first|assumption|constructor)))))))|(apply Nm.r;focus repeat constructor)|(apply Il.r;(focus repeat (first|apply ILit.cons|exact ILit.nil)))|(apply Kf.mk;(focus kernel_rfl))|(apply TkM.r;(focus repeat constructor))|(apply Zx.agg;(focus rfl);(focus rfl);(focus repeat constructor))|(apply LkM.s;(focus first|assumption|rfl))|(apply LkM.n;(focus first|assumption|rfl))|fail)
      all_goals exact PA.lp (D, x, lg) ⟨by repeat first|trivial|refine ⟨rfl,?_⟩,by repeat first|exact .nil|refine .cons (by repeat constructor) ?_⟩ ⟨hsame.symm, hxg, .inl ⟨rfl, rfl⟩⟩
    | some u =>
     obtain ⟨uk, uc, uv⟩ := u
     rw [hup] at hlu hbad
     rcases rules_cases t.kind uk with hz|⟨k1, k2, hz⟩|⟨k1, k2, hz⟩|⟨k1, k2, hz⟩|⟨k1, k2, hz⟩|⟨k1, k2, hz⟩|⟨k1, k2, hz⟩
     ·have hcell := cellF_none (e := e) (g := g) (u := (uk, uc, uv)) hz
      rw [← hlk] at hz
      repeat' (first|refine Sp.h ?_|refine Lk.r rfl ?_|refine Rf.mk rfl ?_|(apply Bd.t;(focus first|assumption|omega|rfl))|(apply Bd.f;(focus first|assumption|omega|exact Bool.false_ne_true))|(refine All.mk ?_;intro _)|(apply TkB.r;(focus repeat constructor))|(apply Ix.q;(focus exact rfl);(focus assumption))|refine Ch.l ⟨rfl, rfl⟩ ?_|(apply SetAsk.r;(focus (repeat (first|exact SetAs.z|(apply SetAs.c;(focus (repeat first|assumption|constructor)))))))|(apply Fk.r;(focus (repeat (first|exact FillA.nil|(apply FillA.agg;(focus rfl);(focus rfl);(focus (repeat (first|exact SetAs.z|(apply SetAs.c;(focus (repeat first|assumption|constructor)))))))|(apply FillA.one;(focus rfl);(focus infer_instance);(focus (repeat first|assumption|constructor)))))))|(apply Nm.r;focus repeat constructor)|(apply Il.r;(focus repeat (first|apply ILit.cons|exact ILit.nil)))|(apply Kf.mk;(focus kernel_rfl))|(apply TkM.r;(focus repeat constructor))|apply Zx.one|(apply LkM.s;(focus first|assumption|rfl))|(apply LkM.n;(focus first|assumption|rfl))|fail)
      all_goals exact PA.lp (D, x, lg) ⟨by repeat first|trivial|refine ⟨rfl,?_⟩,by repeat first|exact .nil|refine .cons (by repeat constructor) ?_⟩ ⟨hsame.symm, by rw [hcell];exact hxg, .inl ⟨by rw [hcell], rfl⟩⟩
     ·have hr : ¬ isReg t.kind := by unfold isReg;omega
      have hcell : cellF e t (some (uk, uc, uv)) g = ((addF x.marks ⟨e.rep, e.num, e.time, 0⟩).1, ⟨x.put, x.drop, (addF x.marks ⟨e.rep, e.num, e.time, 0⟩).2⟩) := by
       rw [← hxg];simp [cellF, k1, k2, isReg, MgE.g]
      have hcon := add_a v i e ⟨e.rep, e.num, e.time, 0⟩ D x hx (hsrt.mono _) hml
      rw [← hlk] at hz
      repeat' (first|refine Sp.h ?_|refine Lk.r rfl ?_|refine Rf.mk rfl ?_|(apply Bd.t;(focus first|assumption|omega|rfl))|(apply Bd.f;(focus first|assumption|omega|exact Bool.false_ne_true))|refine OpK.r rfl ?_|(refine All.mk ?_;intro _)|(apply TkA.r;(focus repeat constructor))|(apply TkB.r;(focus repeat constructor))|(apply Ix.q;(focus exact rfl);(focus assumption))|refine Ch.l ⟨rfl, rfl⟩ ?_|(apply SetAsk.r;(focus (repeat (first|exact SetAs.z|(apply SetAs.c;(focus (repeat first|assumption|constructor)))))))|(apply Fk.r;(focus (repeat (first|exact FillA.nil|(apply FillA.agg;(focus rfl);(focus rfl);(focus (repeat (first|exact SetAs.z|(apply SetAs.c;(focus (repeat first|assumption|constructor)))))))|(apply FillA.one;(focus rfl);(focus infer_instance);(focus (repeat first|assumption|constructor)))))))|(apply Nm.r;focus repeat constructor)|(apply Il.r;(focus repeat (first|apply ILit.cons|exact ILit.nil)))|(apply Kf.mk;(focus kernel_rfl))|(apply TkM.r;(focus repeat constructor))|(apply LkM.s;(focus first|assumption|rfl))|(apply CA.draw;(focus rfl);(focus kernel_rfl);(focus kernel_rfl);(focus repeat' constructor);(focus rfl))|(apply Cl.p (hreg);(focus repeat' (first|exact Lend.nil|apply Lend.keep|fail))))
      (apply Cl.use (hcon);(focus repeat' (first|exact Lend.nil|apply Lend.keep|fail));(focus (repeat (first|exact Takes.nil|(apply Takes.cons;(focus repeat constructor)))));(focus rfl))
      rintro _ _ ⟨w', rfl, rfl⟩
      repeat' (first|refine Sp.h ?_|refine Lk.r rfl ?_|refine Rf.mk rfl ?_|(refine Bd.mk ?_ ?_ <;> intro _)|(apply Nm.r;focus repeat constructor)|fail)
      ·exact PA.lp (D.set i ⟨x.put, x.drop, w', (addF x.marks ⟨e.rep, e.num, e.time, 0⟩).2⟩, ⟨x.put, x.drop, w', (addF x.marks ⟨e.rep, e.num, e.time, 0⟩).2⟩, lg) ⟨by repeat first|trivial|refine ⟨rfl,?_⟩,by repeat first|exact .nil|refine .cons (by repeat constructor) ?_⟩ ⟨rfl, by rw [hcell];rfl, .inl ⟨by rw [hcell];assumption, rfl⟩⟩
      ·exact PA.lp (D.set i ⟨x.put, x.drop, w', (addF x.marks ⟨e.rep, e.num, e.time, 0⟩).2⟩, ⟨x.put, x.drop, w', (addF x.marks ⟨e.rep, e.num, e.time, 0⟩).2⟩, true) ⟨by repeat first|trivial|refine ⟨rfl,?_⟩,by repeat first|exact .nil|refine .cons (by repeat constructor) ?_⟩ ⟨rfl, by rw [hcell];rfl, .inr ⟨by rw [hcell];assumption, rfl⟩⟩
      ·rw [hbad _ _ hcell (by assumption) (by assumption)]
       exact ⟨_, _, .tup (.same (.same (.nil (by (repeat first|exact .nil|refine .cons (by repeat constructor) ?_))))), .inr ⟨by assumption, rfl, rfl⟩⟩
     ·have hr : ¬ isReg t.kind := by unfold isReg;omega
      have hcell : cellF e t (some (uk, uc, uv)) g = (0, ⟨false, x.drop, fgK e.past x.marks⟩) := by
       rw [← hxg];simp [cellF, k1, k2, MgE.g]
      have hcon := drop_a v i e ⟨e.rep, e.num, e.time, 0⟩ D x hx hml
      rw [← hlk] at hz
      repeat' (first|refine Sp.h ?_|refine Lk.r rfl ?_|refine Rf.mk rfl ?_|(apply Bd.t;(focus first|assumption|omega|rfl))|(apply Bd.f;(focus first|assumption|omega|exact Bool.false_ne_true))|refine OpK.r rfl ?_|(refine All.mk ?_;intro _)|(apply TkA.r;(focus repeat constructor))|(apply TkB.r;(focus repeat constructor))|(apply Ix.q;(focus exact rfl);(focus assumption))|refine Ch.l ⟨rfl, rfl⟩ ?_|(apply SetAsk.r;(focus (repeat (first|exact SetAs.z|(apply SetAs.c;(focus (repeat first|assumption|constructor)))))))|(apply Fk.r;(focus (repeat (first|exact FillA.nil|(apply FillA.agg;(focus rfl);(focus rfl);(focus (repeat (first|exact SetAs.z|(apply SetAs.c;(focus (repeat first|assumption|constructor)))))))|(apply FillA.one;(focus rfl);(focus infer_instance);(focus (repeat first|assumption|constructor)))))))|(apply Nm.r;focus repeat constructor)|(apply Il.r;(focus repeat (first|apply ILit.cons|exact ILit.nil)))|(apply Kf.mk;(focus kernel_rfl))|(apply TkM.r;(focus repeat constructor))|(apply LkM.s;(focus first|assumption|rfl))|(apply CA.draw;(focus rfl);(focus kernel_rfl);(focus kernel_rfl);(focus repeat' constructor);(focus rfl))|(apply Cl.p (hreg);(focus repeat' (first|exact Lend.nil|apply Lend.keep|fail))))
      (apply Cl.use (hcon);(focus repeat' (first|exact Lend.nil|apply Lend.keep|fail));(focus (repeat (first|exact Takes.nil|(apply Takes.cons;(focus repeat constructor)))));(focus rfl))
      rintro _ _ ⟨rfl, w', rfl⟩
      repeat' (first|refine Sp.h ?_|refine Lk.r rfl ?_|refine Rf.mk rfl ?_|(apply Bd.t;(focus first|assumption|omega|rfl))|fail)
      exact PA.lp (D.set i ⟨false, x.drop, w', fgK e.past x.marks⟩, ⟨false, x.drop, w', fgK e.past x.marks⟩, lg) ⟨by repeat first|trivial|refine ⟨rfl,?_⟩,by repeat first|exact .nil|refine .cons (by repeat constructor) ?_⟩ ⟨rfl, by rw [hcell];rfl, .inl ⟨by rw [hcell], rfl⟩⟩
     ·have hr : ¬ isReg t.kind := by unfold isReg;omega
      have hcell : cellF e t (some (uk, uc, uv)) g = (0, ⟨true, false, fgK e.past x.marks⟩) := by
       rw [← hxg];simp [cellF, k1, k2, MgE.g]
      have hcon := put_a v i e ⟨e.rep, e.num, e.time, 0⟩ D x hx hml
      rw [← hlk] at hz
      repeat' (first|refine Sp.h ?_|refine Lk.r rfl ?_|refine Rf.mk rfl ?_|(apply Bd.t;(focus first|assumption|omega|rfl))|(apply Bd.f;(focus first|assumption|omega|exact Bool.false_ne_true))|refine OpK.r rfl ?_|(refine All.mk ?_;intro _)|(apply TkA.r;(focus repeat constructor))|(apply TkB.r;(focus repeat constructor))|(apply Ix.q;(focus exact rfl);(focus assumption))|refine Ch.l ⟨rfl, rfl⟩ ?_|(apply SetAsk.r;(focus (repeat (first|exact SetAs.z|(apply SetAs.c;(focus (repeat first|assumption|constructor)))))))|(apply Fk.r;(focus (repeat (first|exact FillA.nil|(apply FillA.agg;(focus rfl);(focus rfl);(focus (repeat (first|exact SetAs.z|(apply SetAs.c;(focus (repeat first|assumption|constructor)))))))|(apply FillA.one;(focus rfl);(focus infer_instance);(focus (repeat first|assumption|constructor)))))))|(apply Nm.r;focus repeat constructor)|(apply Il.r;(focus repeat (first|apply ILit.cons|exact ILit.nil)))|(apply Kf.mk;(focus kernel_rfl))|(apply TkM.r;(focus repeat constructor))|(apply LkM.s;(focus first|assumption|rfl))|(apply CA.draw;(focus rfl);(focus kernel_rfl);(focus kernel_rfl);(focus repeat' constructor);(focus rfl))|(apply Cl.p (hreg);(focus repeat' (first|exact Lend.nil|apply Lend.keep|fail))))
      (apply Cl.use (hcon);(focus repeat' (first|exact Lend.nil|apply Lend.keep|fail));(focus (repeat (first|exact Takes.nil|(apply Takes.cons;(focus repeat constructor)))));(focus rfl))
      rintro _ _ ⟨rfl, w', rfl⟩
      repeat' (first|refine Sp.h ?_|refine Lk.r rfl ?_|refine Rf.mk rfl ?_|(apply Bd.t;(focus first|assumption|omega|rfl))|fail)
      exact PA.lp (D.set i ⟨true, false, w', fgK e.past x.marks⟩, ⟨true, false, w', fgK e.past x.marks⟩, lg) ⟨by repeat first|trivial|refine ⟨rfl,?_⟩,by repeat first|exact .nil|refine .cons (by repeat constructor) ?_⟩ ⟨rfl, by rw [hcell];rfl, .inl ⟨by rw [hcell], rfl⟩⟩
     ·have hr : ¬ isReg t.kind := by unfold isReg;omega
      have hcell : cellF e t (some (uk, uc, uv)) g = ((addF x.marks ⟨e.rep, e.num, e.time, 0⟩).1, ⟨x.put, x.drop, (addF x.marks ⟨e.rep, e.num, e.time, 0⟩).2⟩) := by
       rw [← hxg];simp [cellF, k1, k2, isReg, MgE.g]
      have hcon := add_a v i e ⟨e.rep, e.num, e.time, 0⟩ D x hx (hsrt.mono _) hml
      rw [← hlk] at hz
      repeat' (first|refine Sp.h ?_|refine Lk.r rfl ?_|refine Rf.mk rfl ?_|(apply Bd.t;(focus first|assumption|omega|rfl))|(apply Bd.f;(focus first|assumption|omega|exact Bool.false_ne_true))|refine OpK.r rfl ?_|(refine All.mk ?_;intro _)|(apply TkA.r;(focus repeat constructor))|(apply TkB.r;(focus repeat constructor))|(apply Ix.q;(focus exact rfl);(focus assumption))|refine Ch.l ⟨rfl, rfl⟩ ?_|(apply SetAsk.r;(focus (repeat (first|exact SetAs.z|(apply SetAs.c;(focus (repeat first|assumption|constructor)))))))|(apply Fk.r;(focus (repeat (first|exact FillA.nil|(apply FillA.agg;(focus rfl);(focus rfl);(focus (repeat (first|exact SetAs.z|(apply SetAs.c;(focus (repeat first|assumption|constructor)))))))|(apply FillA.one;(focus rfl);(focus infer_instance);(focus (repeat first|assumption|constructor)))))))|(apply Nm.r;focus repeat constructor)|(apply Il.r;(focus repeat (first|apply ILit.cons|exact ILit.nil)))|(apply Kf.mk;(focus kernel_rfl))|(apply TkM.r;(focus repeat constructor))|(apply LkM.s;(focus first|assumption|rfl))|(apply CA.draw;(focus rfl);(focus kernel_rfl);(focus kernel_rfl);(focus repeat' constructor);(focus rfl))|(apply Cl.p (hreg);(focus repeat' (first|exact Lend.nil|apply Lend.keep|fail))))
      (apply Cl.use (hcon);(focus repeat' (first|exact Lend.nil|apply Lend.keep|fail));(focus (repeat (first|exact Takes.nil|(apply Takes.cons;(focus repeat constructor)))));(focus rfl))
      rintro _ _ ⟨w', rfl, rfl⟩
      repeat' (first|refine Sp.h ?_|refine Lk.r rfl ?_|refine Rf.mk rfl ?_|(refine Bd.mk ?_ ?_ <;> intro _)|(apply Nm.r;focus repeat constructor)|fail)
      ·exact PA.lp (D.set i ⟨x.put, x.drop, w', (addF x.marks ⟨e.rep, e.num, e.time, 0⟩).2⟩, ⟨x.put, x.drop, w', (addF x.marks ⟨e.rep, e.num, e.time, 0⟩).2⟩, lg) ⟨by repeat first|trivial|refine ⟨rfl,?_⟩,by repeat first|exact .nil|refine .cons (by repeat constructor) ?_⟩ ⟨rfl, by rw [hcell];rfl, .inl ⟨by rw [hcell];assumption, rfl⟩⟩
      ·exact PA.lp (D.set i ⟨x.put, x.drop, w', (addF x.marks ⟨e.rep, e.num, e.time, 0⟩).2⟩, ⟨x.put, x.drop, w', (addF x.marks ⟨e.rep, e.num, e.time, 0⟩).2⟩, true) ⟨by repeat first|trivial|refine ⟨rfl,?_⟩,by repeat first|exact .nil|refine .cons (by repeat constructor) ?_⟩ ⟨rfl, by rw [hcell];rfl, .inr ⟨by rw [hcell];assumption, rfl⟩⟩
      ·rw [hbad _ _ hcell (by assumption) (by assumption)]
       exact ⟨_, _, .tup (.same (.same (.nil (by (repeat first|exact .nil|refine .cons (by repeat constructor) ?_))))), .inr ⟨by assumption, rfl, rfl⟩⟩
     ·have hr : isReg t.kind := by unfold isReg;omega
      have hcell : cellF e t (some (uk, uc, uv)) g = ((lastF x.marks ⟨e.rep, e.num, e.time, uv⟩).1, ⟨x.put, x.drop, (lastF x.marks ⟨e.rep, e.num, e.time, uv⟩).2⟩) := by
       rw [← hxg];simp [cellF, k1, k2, isReg, MgE.g]
      have hcon := last_a v i e ⟨e.rep, e.num, e.time, uv⟩ D x hx hml
      rw [← hlk] at hz
      repeat' (first|refine Sp.h ?_|refine Lk.r rfl ?_|refine Rf.mk rfl ?_|(apply Bd.t;(focus first|assumption|omega|rfl))|refine OpK.r rfl ?_|(refine All.mk ?_;intro _)|(apply TkA.r;(focus repeat constructor))|(apply TkB.r;(focus repeat constructor))|(apply Ix.q;(focus exact rfl);(focus assumption))|refine Ch.l ⟨rfl, rfl⟩ ?_|(apply SetAk.r;(focus (repeat first|assumption|constructor)))|(apply SetAsk.r;(focus (repeat (first|exact SetAs.z|(apply SetAs.c;(focus (repeat first|assumption|constructor)))))))|(apply Fk.r;(focus (repeat (first|exact FillA.nil|(apply FillA.agg;(focus rfl);(focus rfl);(focus (repeat (first|exact SetAs.z|(apply SetAs.c;(focus (repeat first|assumption|constructor)))))))|(apply FillA.one;(focus rfl);(focus infer_instance);(focus (repeat first|assumption|constructor)))))))|(apply Nm.r;focus repeat constructor)|(apply Il.r;(focus repeat (first|apply ILit.cons|exact ILit.nil)))|(apply Kf.mk;(focus kernel_rfl))|(apply TkM.r;(focus repeat constructor))|(apply LkM.s;(focus first|assumption|rfl))|(apply CA.draw;(focus rfl);(focus kernel_rfl);(focus kernel_rfl);(focus repeat' constructor);(focus rfl))|(apply Cl.p (hreg);(focus repeat' (first|exact Lend.nil|apply Lend.keep|fail))))
      (apply Cl.use (hcon);(focus repeat' (first|exact Lend.nil|apply Lend.keep|fail));(focus (repeat (first|exact Takes.nil|(apply Takes.cons;(focus repeat constructor)))));(focus rfl))
      rintro _ _ ⟨rfl, w', rfl⟩
      repeat' (first|refine Sp.h ?_|refine Lk.r rfl ?_|refine Rf.mk rfl ?_|(refine Bd.mk ?_ ?_ <;> intro _)|(apply Nm.r;focus repeat constructor)|fail)
      ·exact PA.lp (D.set i ⟨x.put, x.drop, w', (lastF x.marks ⟨e.rep, e.num, e.time, uv⟩).2⟩, ⟨x.put, x.drop, w', (lastF x.marks ⟨e.rep, e.num, e.time, uv⟩).2⟩, lg) ⟨by repeat first|trivial|refine ⟨rfl,?_⟩,by repeat first|exact .nil|refine .cons (by repeat constructor) ?_⟩ ⟨rfl, by rw [hcell];rfl, .inl ⟨by rw [hcell];assumption, rfl⟩⟩
      ·exact PA.lp (D.set i ⟨x.put, x.drop, w', (lastF x.marks ⟨e.rep, e.num, e.time, uv⟩).2⟩, ⟨x.put, x.drop, w', (lastF x.marks ⟨e.rep, e.num, e.time, uv⟩).2⟩, true) ⟨by repeat first|trivial|refine ⟨rfl,?_⟩,by repeat first|exact .nil|refine .cons (by repeat constructor) ?_⟩ ⟨rfl, by rw [hcell];rfl, .inr ⟨by rw [hcell];assumption, rfl⟩⟩
      ·rw [hbad _ _ hcell (by assumption) (by assumption)]
       exact ⟨_, _, .tup (.same (.same (.nil (by (repeat first|exact .nil|refine .cons (by repeat constructor) ?_))))), .inr ⟨by assumption, rfl, rfl⟩⟩
     ·have hr : isReg t.kind := by unfold isReg;omega
      have hcell : cellF e t (some (uk, uc, uv)) g = ((addF (fgK e.past x.marks) ⟨e.rep, e.num, e.time, uv⟩).1, ⟨x.put, x.drop, (addF (fgK e.past x.marks) ⟨e.rep, e.num, e.time, uv⟩).2⟩) := by
       rw [← hxg];simp [cellF, k1, k2, isReg, MgE.g]
      have hcon := multi_a v i e ⟨e.rep, e.num, e.time, uv⟩ D x hx hml ((hsrt.filter _).mono _)
      rw [← hlk] at hz
      repeat' (first|refine Sp.h ?_|refine Lk.r rfl ?_|refine Rf.mk rfl ?_|(apply Bd.t;(focus first|assumption|omega|rfl))|refine OpK.r rfl ?_|(refine All.mk ?_;intro _)|(apply TkA.r;(focus repeat constructor))|(apply TkB.r;(focus repeat constructor))|(apply Ix.q;(focus exact rfl);(focus assumption))|refine Ch.l ⟨rfl, rfl⟩ ?_|(apply SetAk.r;(focus (repeat first|assumption|constructor)))|(apply SetAsk.r;(focus (repeat (first|exact SetAs.z|(apply SetAs.c;(focus (repeat first|assumption|constructor)))))))|(apply Fk.r;(focus (repeat (first|exact FillA.nil|(apply FillA.agg;(focus rfl);(focus rfl);(focus (repeat (first|exact SetAs.z|(apply SetAs.c;(focus (repeat first|assumption|constructor)))))))|(apply FillA.one;(focus rfl);(focus infer_instance);(focus (repeat first|assumption|constructor)))))))|(apply Nm.r;focus repeat constructor)|(apply Il.r;(focus repeat (first|apply ILit.cons|exact ILit.nil)))|(apply Kf.mk;(focus kernel_rfl))|(apply TkM.r;(focus repeat constructor))|(apply LkM.s;(focus first|assumption|rfl))|(apply CA.draw;(focus rfl);(focus kernel_rfl);(focus kernel_rfl);(focus repeat' constructor);(focus rfl))|(apply Cl.p (hreg);(focus repeat' (first|exact Lend.nil|apply Lend.keep|fail))))
      (apply Cl.use (hcon);(focus repeat' (first|exact Lend.nil|apply Lend.keep|fail));(focus (repeat (first|exact Takes.nil|(apply Takes.cons;(focus repeat constructor)))));(focus rfl))
      rintro _ _ ⟨rfl, w', rfl⟩
      repeat' (first|refine Sp.h ?_|refine Lk.r rfl ?_|refine Rf.mk rfl ?_|(refine Bd.mk ?_ ?_ <;> intro _)|(apply Nm.r;focus repeat constructor)|fail)
      ·exact PA.lp (D.set i ⟨x.put, x.drop, w', (addF (fgK e.past x.marks) ⟨e.rep, e.num, e.time, uv⟩).2⟩, ⟨x.put, x.drop, w', (addF (fgK e.past x.marks) ⟨e.rep, e.num, e.time, uv⟩).2⟩, lg) ⟨by repeat first|trivial|refine ⟨rfl,?_⟩,by repeat first|exact .nil|refine .cons (by repeat constructor) ?_⟩ ⟨rfl, by rw [hcell];rfl, .inl ⟨by rw [hcell];assumption, rfl⟩⟩
      ·exact PA.lp (D.set i ⟨x.put, x.drop, w', (addF (fgK e.past x.marks) ⟨e.rep, e.num, e.time, uv⟩).2⟩, ⟨x.put, x.drop, w', (addF (fgK e.past x.marks) ⟨e.rep, e.num, e.time, uv⟩).2⟩, true) ⟨by repeat first|trivial|refine ⟨rfl,?_⟩,by repeat first|exact .nil|refine .cons (by repeat constructor) ?_⟩ ⟨rfl, by rw [hcell];rfl, .inr ⟨by rw [hcell];assumption, rfl⟩⟩
      ·rw [hbad _ _ hcell (by assumption) (by assumption)]
       exact ⟨_, _, .tup (.same (.same (.nil (by (repeat first|exact .nil|refine .cons (by repeat constructor) ?_))))), .inr ⟨by assumption, rfl, rfl⟩⟩
   ·rintro ⟨D', x', lg'⟩ ⟨hD', hx', hc⟩
    simp only at hD' hx' hc
    subst hD'
    simp only
    have htk : C.take (i + 1) = C.take i ++ [cellF e t (updF a.eff.updates i) g] := by rw [List.take_add_one, hq];rfl
    have hdr : l.drop i = g :: l.drop (i + 1) := by
     have h9 := List.drop_eq_getElem_cons hin
     rw [(List.getElem?_eq_some_iff.1 hgi).2] at h9
     exact h9
    have hA : (D.set i x').map MgE.g = (C.take (i + 1)).map (·.2) ++ l.drop (i + 1) := by
     rw [List.map_set, g2, hx', hdr, List.set_append, if_neg (by rw [List.length_map, htl];omega), List.length_map, htl, Nat.sub_self, List.set_cons_zero, htk]
     simp
    have hB : ∀ p ∈ C.take (i + 1), p.1 = 0 ∨ p.1 = 8 := fun p hp => by
     rw [htk] at hp
     rcases List.mem_append.1 hp with h9|h9
     ·exact g3 p h9
     ·rw [List.mem_singleton.1 h9]
      exact hc.imp (·.1) (·.1)
    have hE : lg' = true ↔ ∃ p ∈ C.take (i + 1), p.1 = 8 := by
     rw [htk]
     rcases hc with ⟨c1, rfl⟩|⟨c1, rfl⟩
     ·rw [g4]
      constructor
      ·rintro ⟨p, hp, h8⟩
       exact ⟨p, by simp [hp], h8⟩
      ·rintro ⟨p, hp, h8⟩
       rcases List.mem_append.1 hp with h9|h9
       ·exact ⟨p, h9, h8⟩
       ·rw [List.mem_singleton.1 h9, c1] at h8;cases h8
     ·exact ⟨fun _ => ⟨_, by simp, c1⟩, fun _ => rfl⟩
    (repeat' (first|(show CA _ _ (Code.region 28 _ _) _ _;apply Stopped.out)|refine Sp.h ?_|fail));any_goals apply Stopped.mk
    apply CA.bunPut (l := D) (g := mgeR) (i := i) (x := x')
    focus (repeat constructor)
    focus (repeat constructor)
    focus exact hDl
    repeat' (first|refine Sp.h ?_|refine Lk.r rfl ?_|refine Rf.mk rfl ?_|(apply Ov.n;(focus first|omega|(simp <;> omega)))|fail)
    exact PA.lp (i + 1, D.set i x', lg') ⟨by repeat first|trivial|refine ⟨rfl,?_⟩,by repeat first|exact .nil|refine .cons (by repeat constructor) ?_⟩ ⟨⟨hin, hA, hB, hE⟩, by simp only;omega⟩
  ·have hie : i = l.length := by omega
   subst hie
   have hCl : C.length = l.length := by rw [hC];exact cellsF_len
   rw [← hCl, List.take_length] at g3 g4
   rw [← hCl, List.take_length, hCl, List.drop_length, List.append_nil] at g2
   cases lg with
   | true =>
    have hG : gatherF C = (8, []) := by rw [gather_end g3, if_pos (g4.1 rfl)]
    rw [hG]
    repeat' (first|refine Sp.h ?_|refine Lk.r rfl ?_|refine Rf.mk rfl ?_|(apply Bd.f;(focus first|assumption|omega|exact Bool.false_ne_true))|(apply Nm.r;focus repeat constructor)|fail)
    exact ⟨_, _, .tup (.same (.same (.nil (by (repeat first|exact .nil|refine .cons (by repeat constructor) ?_))))), .inr ⟨by decide, rfl, rfl⟩⟩
   | false =>
    have hG : gatherF C = (0, C.map (·.2)) := by rw [gather_end g3, if_neg (fun h9 => by have := g4.2 h9;cases this)]
    rw [hG]
    repeat' (first|refine Sp.h ?_|refine Lk.r rfl ?_|refine Rf.mk rfl ?_|(apply Bd.f;(focus first|assumption|omega|exact Bool.false_ne_true))|(apply Nm.r;focus repeat constructor)|fail)
    exact ⟨_, _, .tup (.same (.same (.nil (by (repeat first|exact .nil|refine .cons (by repeat constructor) ?_))))), .inl ⟨v, D, rfl, rfl, rfl, g2⟩⟩
end Go.Proofs.YtmllihbhphnolaaGreat
namespace Go.Proofs.YtmllihbhphnolaaGreat
open Go Go.CF
set_option maxRecDepth 20000
theorem listsQ_p (a b : List (List Int)) : CallP Tryz.prog 61 [clks a, clks b] (.val (.bool (decide (a = b)))) := by
 refine CallA.of pg ord61 Tryz.func61 rfl Tryz.ntmps61 Tryz.results61 rfl fun h0 G0 O0 => ?_
 repeat' (first|refine Sp.h ?_|refine Lk.r rfl ?_|refine Rf.mk rfl ?_|(refine Bd.mk ?_ ?_ <;> intro _)|(refine Im.mk ?_;intro _)|(apply Nm.r;focus repeat constructor)|fail)
 ·refine CA.loop (fun i : Nat => ⟨[(0, clks a), (1, clks b), (5, .val (.int .i64 i))], []⟩) (fun i => i ≤ a.length ∧ a.take i = b.take i) (fun i => a.length - i) 0 ⟨by repeat first|trivial|refine ⟨rfl,?_⟩,by repeat first|exact .nil|refine .cons (by repeat constructor) ?_⟩ ⟨Nat.zero_le _, by simp⟩ ?_
  rintro i ⟨hi, heq⟩
  by_cases hin : i < a.length
  ·obtain ⟨x, hx⟩ := get_of hin
   obtain ⟨y, hy⟩ := get_of (l := b) (i := i) (by omega)
   repeat' (first|refine Sp.h ?_|refine Lk.r rfl ?_|refine Rf.mk rfl ?_|(apply Bd.t;(focus first|assumption|omega|rfl))|(refine Bd.mk ?_ ?_ <;> intro _)|refine OpK.r rfl ?_|(refine Im.mk ?_;intro _)|(apply Ix.q;(focus exact rfl);(focus assumption))|(apply Nm.r;focus repeat constructor)|(apply CA.draw;(focus rfl);(focus kernel_rfl);(focus kernel_rfl);(focus repeat' constructor);(focus rfl))|(apply Ov.n;(focus first|omega|(simp <;> omega)))|(apply Cl.p (intsR_p _ _);(focus repeat' (first|exact Lend.nil|apply Lend.keep|fail))))
   ·rename_i hxy
    refine PA.lp (i + 1) ⟨by repeat first|trivial|refine ⟨rfl,?_⟩,by repeat first|exact .nil|refine .cons (by repeat constructor) ?_⟩ ⟨⟨hin, ?_⟩, by omega⟩
    rw [List.take_add_one, List.take_add_one, hx, hy, heq, show x = y from hxy]
   ·rename_i hxy
    refine Fin.p rfl (vb (decide_eq_false (fun e => hxy ?_)).symm)
    subst e;rw [hx] at hy;cases hy;rfl
  ·have : i = a.length := by omega
   subst this
   repeat' (first|refine Sp.h ?_|refine Lk.r rfl ?_|refine Rf.mk rfl ?_|(apply Bd.f;(focus first|assumption|omega|exact Bool.false_ne_true))|(refine Im.mk ?_;intro _)|(apply Nm.r;focus repeat constructor)|fail)
   refine Fin.p rfl (vb (decide_eq_true ?_).symm)
   rw [List.take_length] at heq
   rw [heq, List.take_of_length_le (by omega)]
 ·rename_i h
  exact Fin.p rfl (vb (decide_eq_false (fun e => h (by rw [e]))).symm)
end Go.Proofs.YtmllihbhphnolaaGreat
namespace Go.CF
open Go
structure ALe (a b : AV) : Prop where
 le : ∀ {h : Heap} {G : Nat → Prop} {v : Value}, a.R h G v → b.R h G v
theorem ALe.refl (a : AV) : ALe a a := ⟨fun h => h⟩
theorem ALe.nil {α : Type} {sz : Nat} {f : α → List AV} : ALe (.val (.slice none 0 0)) (.sl sz [] f) := ⟨fun h => by
 have h : _ = _ := h
 subst h
 exact ⟨by simp, .inl ⟨rfl, none, 0, rfl⟩⟩⟩
inductive RLe : List AV → List AV → Prop where
 | nil : RLe [] []
 | cons {a b : AV} {l m : List AV} : ALe a b → RLe l m → RLe (a :: l) (b :: m)
theorem RLe.rep {h : Heap} {G : Nat → Prop} {l m : List AV} (x : RLe l m) : ∀ {vs : List Value}, RepT h G vs l → RepT h G vs m := by
 induction x with
 | nil => exact fun hr => hr
 | cons ha _ ih =>
  intro vs hr
  match vs, hr with
  | v :: vs, ⟨h1, h2⟩ => exact ⟨ha.le h1, ih h2⟩
theorem ALe.sl {α β : Type} {sz : Nat} {l : List α} {f : α → List AV} {ys : List β} {g : β → List AV} (hl : l.length = ys.length) (hr : ∀ (i : Nat) x y, l[i]? = some x → ys[i]? = some y → RLe (f x) (g y)) : ALe (.sl sz l f) (.sl sz ys g) := ⟨fun {h G v} hv => by
 obtain ⟨h1, ⟨h2, p, cap, h3⟩|⟨b, o, cap, rows, h2, h3, h4, h5, h6, h7, h8⟩⟩ := hv
 ·subst h2
  exact ⟨by rw [← hl];exact h1, .inl ⟨List.eq_nil_of_length_eq_zero (by rw [← hl];rfl), p, cap, h3⟩⟩
 ·refine ⟨by rw [← hl];exact h1, .inr ⟨b, o, cap, rows, by rw [← hl];exact h2, by rw [← hl];exact h3, by rw [← hl];exact h4, h5, h6, h7, ⟨by rw [h8.len, hl], fun i r y g1 g2 => ?_, h8.sz⟩⟩⟩
  have hi := (List.getElem?_eq_some_iff.1 g2).1
  have hx : l[i]? = some (l[i]'(by omega)) := List.getElem?_eq_getElem _
  have g3 := h8.row i r _ g1 hx
  exact ⟨(hr i _ y hx g2).rep g3.t, g3.one⟩⟩
theorem CallA.conv {P : Program} {f : FuncId} {asx : List AV} {own : List Res} {a b : AV} (hab : ALe a b) (h : CallA P f asx own fun q o => q = a ∧ o = []) : CallA P f asx own fun q o => q = b ∧ o = [] :=
 ⟨fun hh G Os vs h1 h2 => (h.run hh G Os vs h1 h2).mono fun v' h' ⟨r, o, G', Os', ⟨e1, e2⟩, g1, g2⟩ => by
  subst e1;subst e2
  exact ⟨_, _, _, _, ⟨rfl, rfl⟩, hab.le g1, g2⟩⟩
section
variable {k : List KI} {e : EA} {o : List Res}
end
end Go.CF
namespace Go.CF
open Go
inductive FX : List Res → List AV → List AV → List Res → Prop where
 | nil {o : List Res} : FX o [] [] o
 | le {o own : List Res} {a b : AV} {l l' : List AV} : ALe a b → FX o l l' own → FX o (a :: l) (b :: l') own
 | agg {o o1 own : List Res} {cs cs' l l' : List AV} : FX o cs cs' o1 → FX o1 l l' own → FX o (.agg cs :: l) (.agg cs' :: l') own
 | tup {o o1 own : List Res} {cs cs' l l' : List AV} : FX o cs cs' o1 → FX o1 l l' own → FX o (.tup cs :: l) (.tup cs' :: l') own
 | unb {o rest own rs : List Res} {l l' : List AV} : Take o (bunR rs) rest → FX (rs ++ rest) l l' own → FX o l l' own
 | sl {o rest o1 own : List Res} {l l' : List AV} {α β : Type} {v : Value} {T sz : Nat} {xs : List α} {f : α → List AV} {ys : List β} {g : β → List AV} :
   Take o (arrR v T sz xs f) rest → xs.length ≤ 9223372036854775807 → FX rest (xs.map fun x => .agg (f x)) (ys.map fun y => .agg (g y)) o1 → FX o1 l l' own → FX o (.ow v :: l) (.sl sz ys g :: l') own
theorem FX.len {o own : List Res} {l l' : List AV} (x : FX o l l' own) : l.length = l'.length := by
 induction x with
 | nil => rfl
 | le _ _ ih => simp [ih]
 | agg _ _ _ ih => simp [ih]
 | tup _ _ _ ih => simp [ih]
 | unb _ _ ih => exact ih
 | sl _ _ _ _ _ ih => simp [ih]
theorem RepLL.aggs {h : Heap} {G : Nat → Prop} {α : Type} {f : α → List AV} : ∀ {rows : List (List Value)} {l : List α}, RepLL h G rows (l.map f) → RepT h G (rows.map fun r => .agg r.toArray) (l.map fun x => .agg (f x))
 | [], [], _ => trivial
 | _ :: _, _ :: _, ⟨h1, h2⟩ => ⟨⟨_, rfl, h1⟩, RepLL.aggs h2⟩
 | [], _ :: _, h => h.elim
 | _ :: _, [], h => h.elim
theorem RepLL.unaggs {h : Heap} {G : Nat → Prop} {α : Type} {f : α → List AV} : ∀ {rows : List (List Value)} {l : List α}, RepT h G (rows.map fun r => .agg r.toArray) (l.map fun x => .agg (f x)) → RepLL h G rows (l.map f)
 | [], [], _ => trivial
 | v :: vs, x :: l, ⟨⟨ws, e, h1⟩, h2⟩ => by
  have e' : v = ws := by
   have := congrArg (fun u => match u with|Value.agg a => a.toList|_ => []) e
   simpa using this
  subst e'
  exact ⟨h1, RepLL.unaggs h2⟩
 | [], _ :: _, h => h.elim
 | _ :: _, [], h => h.elim
theorem FX.rep {h0 : Heap} {G0 O0 : Nat → Prop} {h : Heap} {o own : List Res} {l l' : List AV} (x : FX o l l' own) : ∀ {G : Nat → Prop} {Os : List (Nat → Prop)} {vs : List Value}, HpOK h0 G0 O0 o h G Os → RepT h G vs l → ∃ G' Os', HpOK h0 G0 O0 own h G' Os' ∧ RepT h G' vs l' ∧ ∀ b, G b → G' b := by
 induction x with
 | nil => exact fun {G Os vs} c hr => ⟨G, Os, c, hr, fun _ h => h⟩
 | le ha _ ih =>
  intro G Os vs c hr
  match vs, hr with
  | v :: vs, ⟨r1, r2⟩ =>
   obtain ⟨G', Os', h1, h2, h3⟩ := ih c r2
   exact ⟨G', Os', h1, ⟨AV.mono _ h3 (ha.le r1), h2⟩, h3⟩
 | agg _ _ ih1 ih =>
  intro G Os vs c hr
  match vs, hr with
  | v :: vs, ⟨⟨ws, r1, r3⟩, r2⟩ =>
   obtain ⟨G1, Os1, h1, h2, h3⟩ := ih1 c r3.t
   obtain ⟨G2, Os2, h4, h5, h6⟩ := ih h1 (r2.mono h3)
   exact ⟨G2, Os2, h4, ⟨⟨ws, r1, h2.mono h6, r3.one⟩, h5⟩, fun b hb => h6 b (h3 b hb)⟩
 | tup _ _ ih1 ih =>
  intro G Os vs c hr
  match vs, hr with
  | v :: vs, ⟨⟨ws, r1, r3⟩, r2⟩ =>
   obtain ⟨G1, Os1, h1, h2, h3⟩ := ih1 c r3
   obtain ⟨G2, Os2, h4, h5, h6⟩ := ih h1 (r2.mono h3)
   exact ⟨G2, Os2, h4, ⟨⟨ws, r1, h2.mono h6⟩, h5⟩, fun b hb => h6 b (h3 b hb)⟩
 | unb tk _ ih =>
  intro G Os vs c hr
  obtain ⟨O, os', c2⟩ := c.take tk
  obtain ⟨A, _, g2⟩ := c2.unbun
  exact ih g2 hr
 | sl tk hl hf _ ih1 ih =>
  intro G Os vs c hr
  match vs, hr with
  | v :: vs, ⟨⟨r1, _⟩, r2⟩ =>
   subst r1
   obtain ⟨O, os', c2⟩ := c.take tk
   have hrr := c2.own.1
   have hlen : _ = _ := hf.len
   simp only [List.length_map] at hlen
   obtain ⟨g1, ⟨g2, p, cap, g3⟩|⟨b, of, cap, rows, g2, g3, g4, g5, g6, g7, g8⟩⟩ := sl_of_own hrr hl
   ·obtain ⟨G1, Os1, h1, _, h3⟩ := ih1 (vs := []) c2.freeze (by rw [g2];trivial)
    obtain ⟨G2, Os2, h4, h5, h6⟩ := ih h1 (r2.mono fun b hb => h3 b (.inl hb))
    refine ⟨G2, Os2, h4, ⟨⟨by omega, .inl ⟨List.eq_nil_of_length_eq_zero (by rw [← hlen, g2];rfl), p, cap, g3⟩⟩, h5⟩, fun b hb => h6 b (h3 b (.inl hb))⟩
   ·obtain ⟨G1, Os1, h1, h2, h3⟩ := ih1 c2.freeze (RepLL.of g8).aggs
    obtain ⟨G2, Os2, h4, h5, h6⟩ := ih h1 (r2.mono fun b hb => h3 b (.inl hb))
    refine ⟨G2, Os2, h4, ⟨⟨by omega, .inr ⟨b, of, cap, rows, by rw [← hlen];exact g2, by omega, by omega, h6 _ (h3 _ g5), g6, g7, (RepLL.to (RepLL.unaggs h2) g8.sz).mono h6⟩⟩, h5⟩, fun b hb => h6 b (h3 b (.inl hb))⟩
theorem CallA.fx {P : Program} {f : FuncId} {asx : List AV} {own : List Res} {K : AV → List Res → Prop} {a : AV} (h : CallA P f asx own K) (hK : ∀ r o, K r o → FX o [r] [a] []) : CallA P f asx own fun q o => q = a ∧ o = [] :=
 ⟨fun hh G Os vs h1 h2 => (h.run hh G Os vs h1 h2).mono fun v' h' ⟨r, o, G', Os', hk, g1, g2⟩ => by
  obtain ⟨G2, Os2, k1, k2, k3⟩ := (hK r o hk).rep g2 (vs := [v']) ⟨g1, trivial⟩
  exact ⟨a, [], G2, Os2, ⟨rfl, rfl⟩, k2.1, k1⟩⟩
theorem FX.refl {o : List Res} : ∀ l : List AV, FX o l l o
 | [] => .nil
 | a :: l => .le (ALe.refl a) (FX.refl l)
theorem FX.rows {α β : Type} {r : α → Res} {f : α → List AV} {g : β → List AV} {φ : α → β} {o : List Res} : ∀ L : List α, (∀ x ∈ L, ∀ o', FX (r x :: o') (f x) (g (φ x)) o') → FX (L.map r ++ o) (L.map fun x => .agg (f x)) ((L.map φ).map fun y => .agg (g y)) o
 | [], _ => .nil
 | x :: L, hf => .agg (hf x (by simp) _) (FX.rows L fun y hy => hf y (by simp [hy]))
theorem Cl.fx {Γ : Cx} {c : Cls} {f : FuncId} {asx : List AV} (as' : List AV) {o own : List Res} {M : AV → List Res → Prop} (x : FX o asx as' own) (hc : Cl Γ c f as' own M) : Cl Γ c f asx o M := by
 refine ⟨fun {h0 G0 O0 h G Os vs} hp hr => ?_⟩
 obtain ⟨G1, Os1, k1, k2, k3⟩ := x.rep hp hr
 refine (hc.ok k1 k2).mono fun v h' ⟨g1, r, o', G', Os', g2, g3, g4, g5, g6⟩ => ?_
 exact ⟨g1, r, o', G', Os', g2, g3, g4, g5.mono k3, fun b hb => g6 b (k3 b hb)⟩
end Go.CF
namespace Go.Proofs.YtmllihbhphnolaaGreat
open Go Go.CF
set_option maxRecDepth 20000
def mg0 : MgS := ⟨false, false, []⟩
theorem new_p (m : ModS) (hm : LayOK m.sorts m.tables) : CallP Tryz.prog 150 [mdl m] (mgs (List.replicate (mrgF m).length mg0)) := by
 have hc := cells_p m hm
 have hle := mrgF_le hm
 refine CallA.conv (a := .sl 3 (List.replicate (mrgF m).length ()) fun _ => [bl false, bl false, .val (.slice none 0 0)]) (ALe.sl (by simp) fun i x y _ hy => ?_) (CallA.fz (T := 123) (by simp;omega) ?_)
 ·have : y = mg0 := (List.mem_replicate.1 (List.mem_of_getElem? hy)).2
  subst this
  exact .cons (ALe.refl _) (.cons (ALe.refl _) (.cons ALe.nil .nil))
 ·refine CallA.of pg ord150 Tryz.func150 rfl Tryz.ntmps150 Tryz.results150 rfl fun h0 G0 O0 => ?_
  repeat' (first|refine Sp.h ?_|refine Lk.r rfl ?_|refine Rf.mk rfl ?_|(refine Im.mk ?_;intro _)|(refine All.mk ?_;intro _)|(apply TkB.r;(focus repeat constructor))|refine Ch.l ⟨rfl, rfl⟩ ?_|(apply Nm.r;focus repeat constructor)|refine Rf.mk ⟨rfl, rfl, rfl⟩ ?_|(apply Jx.r;(focus exact rfl);(focus first|omega|(simp;done)|(simp;omega)))|(apply Cl.p (hc);(focus repeat' (first|exact Lend.nil|apply Lend.keep|fail))))
  refine CF.MkS.r (fun _ : Unit => [bl false, bl false, .val (.slice none 0 0)]) () rfl ?_
  repeat' (first|refine Sp.h ?_|refine Lk.r rfl ?_|(refine All.mk ?_;intro _)|(apply Nm.r;focus repeat constructor)|fail)
  exact ⟨_, _, .one (.same (.nil (by (repeat first|exact .nil|refine .cons (by repeat constructor) ?_)))), _, rfl, rfl⟩
abbrev nl0 : AV := .val (.slice none 0 0)
end Go.Proofs.YtmllihbhphnolaaGreat
