/- Part 11 of the ground of this proof: what its texts say of the model, the program and the plain data; conditions: those that are named. -/
import Derived.Test.YtmllihbhphnolaaGreatP10
namespace Go.Proofs.YtmllihbhphnolaaGreat
open Go Go.CF
set_option maxRecDepth 20000
theorem Lend.all {o : List Res} : ∀ l : List AV, Lend o l l
 | [] => .nil
 | _ :: l => .keep (Lend.all l)
abbrev wrs (l : List WrS) : AV := .sl 16 l wrC
abbrev evW' (x : WrS) : AV := .agg (wrC x)
abbrev wrR (v : Value) (l : List WrS) : Res := arrR v 266 16 l wrC
theorem indexW_p {g : FuncId} {caps : List AV} {p : WrS → Bool} (hg : ∀ e, CallP Tryz.prog g (evW' e :: caps) (.val (.bool (p e)))) (he : en g = true) (l : List WrS) :
  CallP Tryz.prog 258 [wrs l, .fn g caps] (.val (.int .i64 (idxI p l))) := by
 refine CallA.of pg ord258 Tryz.func258 rfl Tryz.ntmps258 Tryz.results258 rfl fun h0 G0 O0 => ?_
 repeat' (first|refine Sp.h ?_|refine Lk.r rfl ?_|refine Rf.mk rfl ?_|(refine Im.mk ?_;intro _)|fail)
 rename_i hll
 refine CA.loop (fun i : Nat => ⟨[(0, wrs l), (1, .fn g caps), (7, .val (.int .i64 l.length)), (8, .val (.int .i64 i))], []⟩)
  (fun i => i ≤ l.length ∧ ∀ j y, j < i → l[j]? = some y → p y = false) (fun i => l.length - i) 0 ⟨by repeat first|trivial|refine ⟨rfl,?_⟩,by repeat first|exact .nil|refine .cons (by repeat constructor) ?_⟩ ⟨Nat.zero_le _, fun j y h => by omega⟩ ?_
 rintro i ⟨hi, hj⟩
 by_cases hin : i < l.length
 ·obtain ⟨e, hx⟩ := get_of hin
  repeat' (first|refine Sp.h ?_|refine Lk.r rfl ?_|refine Rf.mk rfl ?_|(apply Bd.t;(focus first|assumption|omega|rfl))|(refine Bd.mk ?_ ?_ <;> intro _)|(apply Ix.q;(focus exact rfl);(focus assumption))|refine Ch.l ⟨rfl, rfl⟩ ?_|(apply Nm.r;focus repeat constructor)|(apply Rf.mk;(focus assumption))|(apply Ov.n;(focus first|omega|(simp <;> omega)))|(apply Cl.p (hg e);(focus repeat' (first|apply Lend.keep|fail))))
  ·exact Lend.all _
  ·rename_i hp
   exact Fin.p rfl (by rw [idxI, idxN_of hx hp hj, if_pos hin])
  ·rename_i hp
   refine PA.lp (i + 1) ⟨by repeat first|trivial|refine ⟨rfl,?_⟩,by repeat first|exact .nil|refine .cons (by repeat constructor) ?_⟩ ⟨⟨hin, fun j y h1 h2 => ?_⟩, by omega⟩
   by_cases hij : j = i
   ·subst hij;rw [hx] at h2;cases h2;simpa using hp
   ·exact hj j y (by omega) h2
 ·repeat' (first|refine Sp.h ?_|refine Lk.r rfl ?_|refine Rf.mk rfl ?_|(apply Bd.f;(focus first|assumption|omega|exact Bool.false_ne_true))|(apply Nm.r;focus repeat constructor)|fail)
  exact Fin.p rfl (by rw [idxI, idxN_none (fun x hx => by obtain ⟨j, hx⟩ := List.getElem?_of_mem hx;exact hj j x (by have := (List.getElem?_eq_some_iff.1 hx).1;omega) hx), if_neg (by omega)])
theorem containsW_p {g : FuncId} {caps : List AV} {p : WrS → Bool} (hg : ∀ e, CallP Tryz.prog g (evW' e :: caps) (.val (.bool (p e)))) (he : en g = true) (l : List WrS) :
  CallP Tryz.prog 202 [wrs l, .fn g caps] (.val (.bool (decide (idxN p l < l.length)))) := by
 refine CallA.of pg ord202 Tryz.func202 rfl Tryz.ntmps202 Tryz.results202 rfl fun h0 G0 O0 => ?_
 repeat' (first|refine Sp.h ?_|refine Lk.r rfl ?_|refine Rf.mk rfl ?_|(apply Nm.r;focus repeat constructor)|(apply Cl.p (indexW_p hg he l);(focus repeat' (first|exact Lend.nil|apply Lend.keep|fail))))
 refine Fin.p rfl (vb (decide_eq_decide.2 ?_))
 unfold idxI
 split <;> omega
set_option maxHeartbeats 2000000 in
theorem deleteW_a {g : FuncId} {caps : List AV} {p : WrS → Bool} (hg : ∀ x, CallP Tryz.prog g (evW' x :: caps) (bl (p x))) (he : en g = true) (w : Value) (l : List WrS) (hl : l.length ≤ 1000000) :
  CallA Tryz.prog 197 [.ow w, .fn g caps] [wrR w l] fun q own => ∃ w', q = .ow w' ∧ own = [wrR w' (l.filter fun x => !p x)] := by
 have hix := indexW_p hg he l
 refine CallA.of pg ord197 Tryz.func197 rfl Tryz.ntmps197 Tryz.results197 rfl fun h0 G0 O0 => ?_
 repeat' (first|refine Sp.h ?_|refine Lk.r rfl ?_|refine Rf.mk rfl ?_|fail)
 (apply Cl.lend (hix);(focus repeat' (first|exact Lend.nil|apply Lend.keep|(apply Lend.lend;(focus repeat constructor);(focus first|omega|(simp;omega)))|fail)))
 by_cases hn : idxN p l < l.length
 ·have hI : idxI p l = (idxN p l : Nat) := if_pos hn
  rw [hI]
  repeat' (first|refine Sp.h ?_|refine Lk.r rfl ?_|refine Rf.mk rfl ?_|(apply Bd.f;(focus first|assumption|omega|exact Bool.false_ne_true))|(apply Ov.n;(focus first|omega|(simp <;> omega)))|fail)
  refine CA.loop (fun x : Nat × Nat × List WrS => ⟨[(0, .ow w), (1, .fn g caps), (5, it x.1), (6, it x.2.1)], [wrR w x.2.2]⟩)
   (fun x => x.1 < x.2.1 ∧ x.2.1 ≤ l.length ∧ x.2.2.length = l.length ∧ x.2.2.take x.1 = (l.take x.2.1).filter (fun x => !p x) ∧ x.2.2.drop x.2.1 = l.drop x.2.1) (fun x => l.length - x.2.1) (idxN p l, idxN p l + 1, l) ⟨by repeat first|trivial|refine ⟨rfl,?_⟩,by repeat first|exact .nil|refine .cons (by repeat constructor) ?_⟩ ⟨Nat.lt_succ_self _, hn, rfl, (filt_idx hn).symm, rfl⟩ ?_
  rintro ⟨i, j, cur⟩ ⟨h1, h2, h3, h4, h5⟩
  simp only at h1 h2 h3 h4 h5
  simp only
  by_cases hj : j < l.length
  ·obtain ⟨x, hx⟩ := get_of hj
   have hcx : cur[j]? = some x := by
    have := congrArg (fun z => z[0]?) h5
    simpa [List.getElem?_drop, hx] using this
   obtain ⟨y, hy⟩ := get_of (l := cur) (i := i) (by omega)
   have h6 : cur.drop (j + 1) = l.drop (j + 1) := by rw [← List.drop_drop, h5, List.drop_drop]
   have h7 : l.take (j + 1) = l.take j ++ [x] := by rw [List.take_add_one, hx];rfl
   repeat' (first|refine Sp.h ?_|refine Lk.r rfl ?_|refine Rf.mk rfl ?_|(apply Bd.t;(focus first|assumption|omega|rfl))|(refine Bd.mk ?_ ?_ <;> intro _)|(refine All.mk ?_;intro _)|(apply TkA.r;(focus repeat constructor))|(apply TkB.r;(focus repeat constructor))|(apply Ix.q;(focus exact rfl);(focus assumption))|(apply At.r;(focus assumption))|refine Ch.l ⟨rfl, rfl⟩ ?_|(apply SetAsk.r;(focus (repeat (first|exact SetAs.z|(apply SetAs.c;(focus (repeat first|assumption|constructor)))))))|(apply Nm.r;focus repeat constructor)|refine Up.r rfl ?_|(apply Rf.mk;(focus assumption))|(apply Ov.n;(focus first|omega|(simp <;> omega)))|(apply Cl.p (hg x);(focus repeat' (first|apply Lend.keep|fail))))
   ·exact Lend.all _
   ·rename_i hp
    exact PA.lp (i, j + 1, cur) ⟨by repeat first|trivial|refine ⟨rfl,?_⟩,by repeat first|exact .nil|refine .cons (by repeat constructor) ?_⟩ ⟨⟨by simp only;omega, hj, h3, by simp only;rw [h7, List.filter_append, h4];simp [hp], h6⟩, by simp only;omega⟩
   ·rename_i hp
    have hp : p x = false := by simpa using hp
    have h8 : (cur.set i x).take (i + 1) = cur.take i ++ [x] := by
     rw [List.take_add_one, List.getElem?_set, if_pos rfl, if_pos (by omega), List.take_set_of_le (Nat.le_refl _)];rfl
    exact PA.lp (i + 1, j + 1, cur.set i x) ⟨by repeat first|trivial|refine ⟨rfl,?_⟩,by repeat first|exact .nil|refine .cons (by repeat constructor) ?_⟩ ⟨⟨by simp only;omega, hj, by simp only;rw [List.length_set];exact h3, by simp only;rw [h7, List.filter_append, h8, h4];simp [hp], by simp only;rw [List.drop_set_of_lt (by omega)];exact h6⟩, by simp only;omega⟩
  ·have hje : j = l.length := by omega
   subst hje
   rw [List.take_length] at h4
   (repeat' (first|(show CA _ _ (Code.region 11 _ _) _ _;apply Stopped.out)|refine Sp.h ?_|refine Lk.r rfl ?_|refine Rf.mk rfl ?_|(apply Bd.f;(focus first|assumption|omega|exact Bool.false_ne_true))|(apply TkA.r;(focus repeat constructor))|fail));any_goals apply Stopped.mk
   apply CA.toRows
   focus (repeat constructor)
   intro L hL
   apply CA.toX 0
   focus rfl
   focus (repeat constructor)
   intro hcap
   rw [h3] at hL
   (repeat' (first|(show CA _ _ Code.ret _ _;apply Stopped.out)|refine Sp.h ?_|refine Lk.r rfl ?_|refine Rf.mk rfl ?_|(apply Om.mk;(focus first|omega|(simp <;> omega)))|refine Rf.mk ⟨rfl, rfl⟩ ?_|refine Rf.mk ⟨rfl, rfl, rfl⟩ ?_|(apply Jx.r;(focus exact rfl);(focus first|omega|(simp;done)|(simp;omega)))|(apply TkX.r;(focus repeat constructor))|(apply ExX.short;(focus rfl);(focus first|omega|(simp <;> omega));(focus first|omega|(simp <;> omega)))|fail));any_goals apply Stopped.mk
   apply CA.ofRows (Z := (L.zip cur).take i)
   focus (repeat constructor)
   focus (repeat constructor)
   focus (intro z hz;obtain ⟨q, hq⟩ := List.getElem?_of_mem (List.mem_of_mem_take hz);exact ⟨q, (List.getElem?_zip_eq_some (z := z)).1 hq⟩)
   focus (rw [List.map_take, List.map_fst_zip (by omega)];simp [List.take_take])
   rw [List.map_take, List.map_snd_zip (by omega), h4]
   repeat' (first|refine Sp.h ?_|refine Lk.r rfl ?_|(apply Nm.r;focus repeat constructor)|fail)
   exact ⟨_, _, .one (.same (.nil (by (repeat first|exact .nil|refine .cons (by repeat constructor) ?_)))), _, rfl, rfl⟩
 ·have hI : idxI p l = -1 := if_neg hn
  have hall : l.filter (fun x => !p x) = l := List.filter_eq_self.2 fun x hx => by
   have h9 : ¬ ∃ x ∈ l, p x = true := fun h => hn (idxN_lt.2 h)
   cases hpx : p x
   ·rfl
   ·exact absurd ⟨x, hx, hpx⟩ h9
  rw [hI, hall]
  repeat' (first|refine Sp.h ?_|refine Lk.r rfl ?_|refine Rf.mk rfl ?_|(apply Bd.t;(focus first|assumption|omega|rfl))|(apply Nm.r;focus repeat constructor)|fail)
  exact ⟨_, _, .one (.same (.nil (by (repeat first|exact .nil|refine .cons (by repeat constructor) ?_)))), _, rfl, rfl⟩

theorem cloneW_o (l : List WrS) (hl : l.length ≤ 1000000000) : CallO Tryz.prog 198 [wrs l] 266 16 l wrC := by
 refine CallA.of pg ord198 Tryz.func198 rfl Tryz.ntmps198 Tryz.results198 rfl fun h0 G0 O0 => ?_
 repeat' (first|refine Sp.h ?_|refine Lk.r rfl ?_|refine Rf.mk rfl ?_|(refine Bd.mk ?_ ?_ <;> intro _)|(apply Om.mk;(focus first|omega|(simp <;> omega)))|(refine Im.mk ?_;intro _)|(refine All.mk ?_;intro _)|(apply TkA.r;(focus repeat constructor))|refine Ce.l rfl ?_|(apply Fk.r;(focus (repeat (first|exact FillA.nil|(apply FillA.agg;(focus rfl);(focus rfl);(focus (repeat (first|exact SetAs.z|(apply SetAs.c;(focus (repeat first|assumption|constructor)))))))|(apply FillA.one;(focus rfl);(focus infer_instance);(focus (repeat first|assumption|constructor)))))))|(apply Nm.r;focus repeat constructor)|refine Rf.mk ⟨rfl, rfl⟩ ?_|refine Rf.mk ⟨rfl, rfl, rfl⟩ ?_|refine Mp.same ?_|fail)
 ·rename_i b hb hbt
  have hl0 : l = [] := Decidable.byContradiction fun h => by rw [hb h] at hbt;cases hbt
  subst hl0
  exact ⟨_, _, .one (.nils (.nil (by (repeat first|exact .nil|refine .cons (by repeat constructor) ?_)))), _, rfl, rfl⟩
 ·repeat' (first|fail)
  exact ⟨_, _, .one (.same (.nil (by (repeat first|exact .nil|refine .cons (by repeat constructor) ?_)))), _, rfl, rfl⟩
end Go.Proofs.YtmllihbhphnolaaGreat
namespace Go.Proofs.YtmllihbhphnolaaGreat
open Go Go.CF
set_option maxRecDepth 20000
/-! ### What is made -/
/-! ### Closed parts -/
/-! ### Compaction -/
structure StoS where
 base : NowS
 evs : List EvS
 now : NowS
noncomputable def inL (c : List Int) (l : List EvS) : List EvS := l.filter fun e => decide (HasC c e.rep e.num)
noncomputable def outL (c : List Int) (l : List EvS) : List EvS := l.filter fun e => decide (¬ HasC c e.rep e.num)
noncomputable def mrg1 (m : ModS) (k : List MgS) (e : EvS) : List MgS := (applyF m k e).2
noncomputable def cmp1 (m : ModS) (b : NowS) (e : EvS) : NowS := ⟨b.clock, max b.time e.time, addE m b.state e, mrg1 m b.merged e, plE b.places e⟩
noncomputable def cmpB (m : ModS) (b : NowS) (c : List Int) (l : List EvS) : NowS := { (inL c l).foldl (cmp1 m) b with clock := c }
noncomputable def compactF (m : ModS) (s : StoS) (c : List Int) : Int × StoS :=
 @ite _ (¬ (ValC c ∧ c.length = s.now.clock.length)) (Classical.propDecidable _) (1, s)
  (@ite _ (¬ (Ins s.base.clock c ∧ Ins c s.now.clock ∧ ∀ e ∈ s.evs, HasC c e.rep e.num → Ins e.past c)) (Classical.propDecidable _) (9, s)
   (0, ⟨cmpB m s.base c s.evs, outL c s.evs, { s.now with merged := (outL c s.evs).foldl (mrg1 m) (cmpB m s.base c s.evs).merged }⟩))
end Go.Proofs.YtmllihbhphnolaaGreat
namespace Go.Proofs.YtmllihbhphnolaaGreat
open Go Go.CF
set_option maxRecDepth 20000
def BefE (a b : EvS) : Prop := FormedE a ∧ FormedE b ∧ HasC b.past a.rep a.num
noncomputable instance (a b : EvS) : Decidable (BefE a b) := Classical.propDecidable _
def FreeE (rest : List EvS) (e : EvS) : Prop := ∀ y ∈ rest, ¬ BefE y e
noncomputable instance (rest : List EvS) (e : EvS) : Decidable (FreeE rest e) := Classical.propDecidable _
noncomputable def freeN (rest : List EvS) : Nat → List Int
 | 0 => []
 | n + 1 => freeN rest n ++ (match rest[n]? with
  | some e => if FreeE rest e then [(n : Int)] else []
  | none => [])
noncomputable def atF (order : List Int) (n : Nat) (fr : List Int) : Int := match order[n]? with
 | some x => (fr[(x % (fr.length : Int)).toNat]?).getD 0
 | none => (fr[0]?).getD 0
inductive ExtR (order : List Int) : List EvS → List EvS → List EvS → Prop
 | done {out : List EvS} : ExtR order out [] out
 | step {out rest X : List EvS} {e : EvS} {i : Nat} : freeN rest rest.length ≠ [] → atF order out.length (freeN rest rest.length) = i → rest[i]? = some e → ExtR order (out ++ [e]) (rest.eraseIdx i) X → ExtR order out rest X
theorem free_mem {rest : List EvS} {n : Nat} (hn : n ≤ rest.length) {x : Int} : x ∈ freeN rest n ↔ ∃ (i : Nat) (e : EvS), x = i ∧ i < n ∧ rest[i]? = some e ∧ FreeE rest e := by
 induction n with
 | zero => simp [freeN]
 | succ n ih =>
  obtain ⟨e, he⟩ := get_of (l := rest) (i := n) (by omega)
  rw [freeN, List.mem_append, ih (by omega), he]
  constructor
  ·rintro (⟨i, d, h1, h2, h3⟩|h)
   ·exact ⟨i, d, h1, by omega, h3⟩
   ·simp only at h
    split at h
    ·rename_i hf
     exact ⟨n, e, List.mem_singleton.1 h, by omega, he, hf⟩
    ·cases h
  ·rintro ⟨i, d, h1, h2, h3, h4⟩
   by_cases hi : i < n
   ·exact .inl ⟨i, d, h1, hi, h3, h4⟩
   ·have : i = n := by omega
    subst this
    rw [he] at h3;cases h3
    right
    simp only [if_pos h4, h1, List.mem_singleton]
theorem free_len (rest : List EvS) : ∀ n, (freeN rest n).length ≤ n := by
 intro n
 induction n with
 | zero => simp [freeN]
 | succ n ih =>
  rw [freeN, List.length_append]
  split
  ·split <;> simp <;> omega
  ·simp;omega
theorem at_mem {order : List Int} (ho : ∀ x ∈ order, 0 ≤ x) {n : Nat} {fr : List Int} (hf : fr ≠ []) : atF order n fr ∈ fr := by
 have hl : 0 < fr.length := List.length_pos_iff.2 hf
 unfold atF
 split
 ·rename_i x hx
  have := ho x (List.mem_of_getElem? hx)
  have h1 : 0 ≤ x % (fr.length : Int) := Int.emod_nonneg _ (by omega)
  have h2 : x % (fr.length : Int) < fr.length := Int.emod_lt_of_pos _ (by omega)
  obtain ⟨y, hy⟩ := get_of (l := fr) (i := (x % (fr.length : Int)).toNat) (by omega)
  rw [hy, Option.getD_some]
  exact List.mem_of_getElem? hy
 ·obtain ⟨y, hy⟩ := get_of (l := fr) (i := 0) hl
  rw [hy, Option.getD_some]
  exact List.mem_of_getElem? hy
theorem erase_perm {α : Type} : ∀ {l : List α} {i : Nat} {e : α}, l[i]? = some e → l.Perm (e :: l.eraseIdx i)
 | [], i, e, h => by simp at h
 | a :: l, 0, e, h => by
  simp only [List.getElem?_cons_zero, Option.some.injEq] at h
  subst h
  exact List.Perm.refl _
 | a :: l, i + 1, e, h => by
  have ih := erase_perm (l := l) (i := i) (e := e) (by simpa using h)
  rw [List.eraseIdx_cons_succ]
  exact (ih.cons a).trans (List.Perm.swap e a _)
theorem uniq_nodup {l : List EvS} (h : Uniq l) : l.Nodup := by
 rw [List.nodup_iff_pairwise_ne, List.pairwise_iff_getElem]
 intro i j hi hj hij he
 have := h i j _ _ (List.getElem?_eq_getElem hi) (List.getElem?_eq_getElem hj) (by rw [he])
 omega
theorem free_ne {l rest : List EvS} (hc : ClosedE l) (hr : ∀ e ∈ rest, e ∈ l) (hn : rest ≠ []) : freeN rest rest.length ≠ [] := by
 have key : ∀ n, n ≤ rest.length → 0 < n → ∃ (i : Nat) (e : EvS), i < n ∧ rest[i]? = some e ∧ ∀ y ∈ rest.take n, e.time ≤ y.time := by
  intro n
  induction n with
  | zero => intro _ h;omega
  | succ n ih =>
   intro h1 _
   obtain ⟨d, hd⟩ := get_of (l := rest) (i := n) (by omega)
   have htk : rest.take (n + 1) = rest.take n ++ [d] := by rw [List.take_add_one, hd];rfl
   rw [htk]
   by_cases h0 : n = 0
   ·subst h0
    exact ⟨0, d, by omega, hd, fun y hy => by simp at hy;subst hy;exact Int.le_refl _⟩
   ·obtain ⟨i, e, g1, g2, g3⟩ := ih (by omega) (by omega)
    by_cases hle : e.time ≤ d.time
    ·refine ⟨i, e, by omega, g2, fun y hy => ?_⟩
     rcases List.mem_append.1 hy with hy|hy
     ·exact g3 y hy
     ·rw [List.mem_singleton.1 hy];exact hle
    ·refine ⟨n, d, by omega, hd, fun y hy => ?_⟩
     rcases List.mem_append.1 hy with hy|hy
     ·have := g3 y hy;omega
     ·rw [List.mem_singleton.1 hy];exact Int.le_refl _
 obtain ⟨i, e, h1, h2, h3⟩ := key rest.length (Nat.le_refl _) (List.length_pos_iff.2 hn)
 rw [List.take_length] at h3
 have : (i : Int) ∈ freeN rest rest.length := (free_mem (Nat.le_refl _)).2 ⟨i, e, rfl, h1, h2, fun y hy hb => by
  have h4 := h3 y hy
  have := (closed_past hc (hr e (List.mem_of_getElem? h2)) (hr y hy) hb.2.2).1
  omega⟩
 exact fun h => by rw [h] at this;cases this
theorem ext_run {l : List EvS} (hc : ClosedE l) {order : List Int} (ho : ∀ x ∈ order, 0 ≤ x) : ∀ (n : Nat) (out rest : List EvS), rest.length = n → (out ++ rest).Perm l → ExtO l out → ∃ X, ExtR order out rest X ∧ ExtO l X ∧ X.Perm l := by
 intro n
 induction n with
 | zero =>
  intro out rest hn hp hx
  have hr := List.eq_nil_of_length_eq_zero hn
  subst hr
  exact ⟨out, .done, hx, by simpa using hp⟩
 | succ n ih =>
  intro out rest hn hp hx
  have hsub : ∀ e ∈ rest, e ∈ l := fun e he => hp.mem_iff.1 (by simp [he])
  have hf := free_ne hc hsub (by intro h;rw [h] at hn;cases hn)
  have hm := at_mem ho (n := out.length) hf
  obtain ⟨i, e, h1, h2, h3, h4⟩ := (free_mem (Nat.le_refl _)).1 hm
  have hel := hsub e (List.mem_of_getElem? h3)
  have hpe : rest.Perm (e :: rest.eraseIdx i) := erase_perm h3
  have hp2 : ((out ++ [e]) ++ rest.eraseIdx i).Perm l := by
   rw [List.append_assoc]
   exact (hpe.symm.append_left out).trans hp
  have hnd : (out ++ rest).Nodup := hp.symm.nodup (uniq_nodup hc.2.1)
  have hno : e ∉ out := fun h => (List.nodup_append.1 hnd).2.2 e h e (List.mem_of_getElem? h3) rfl
  obtain ⟨X, g1, g2, g3⟩ := ih (out ++ [e]) (rest.eraseIdx i) (by rw [List.length_eraseIdx, if_pos h2];omega) hp2 (hx.snoc hel hno fun d hd hh => by
   have hd2 : d ∈ out ++ rest := hp.mem_iff.2 hd
   rcases List.mem_append.1 hd2 with h9|h9
   ·exact h9
   ·exact absurd ⟨(hc.2.2.1 d hd).1, (hc.2.2.1 e hel).1, hh⟩ (h4 d h9))
  exact ⟨X, .step hf h1 h3 g1, g2, g3⟩
theorem ext_ok {l : List EvS} (hc : ClosedE l) {order : List Int} (ho : ∀ x ∈ order, 0 ≤ x) : ∃ X, ExtR order [] (ordE l) X ∧ ExtO l X ∧ X.Perm l :=
 ext_run hc ho _ [] (ordE l) rfl (by simpa using (ordE_perm l).symm) (ExtO.nil l)
end Go.Proofs.YtmllihbhphnolaaGreat
namespace Go.Proofs.YtmllihbhphnolaaGreat
open Go Go.CF
set_option maxRecDepth 20000
theorem less32_p (a b : EvS) : CallP Tryz.prog 228 [evA' a, evA' b] (bl (decide (LtE a b))) := by
 refine CallA.of pg ord228 Tryz.func228 rfl Tryz.ntmps228 Tryz.results228 rfl fun h0 G0 O0 => ?_
 repeat' (first|refine Sp.h ?_|refine Lk.r rfl ?_|refine Rf.mk rfl ?_|(refine Bd.mk ?_ ?_ <;> intro _)|(refine All.mk ?_;intro _)|(apply TkB.r;(focus repeat constructor))|(apply Nm.r;focus repeat constructor)|fail)
 all_goals exact Fin.p rfl (vb (by first|exact (decide_eq_true (by unfold LtE;omega)).symm|exact (decide_eq_false (by unfold LtE;omega)).symm|exact decide_eq_decide.2 (by unfold LtE;omega)))
theorem before32_p (a b : EvS) : CallP Tryz.prog 123 [evA' a, evA' b] (bl (decide (BefE a b))) := by
 have h1 := formedR_p a
 have h2 := formedR_p b
 have h3 := nameR_p a
 have h4 := hasR_p b.past a.rep a.num
 by_cases k1 : FormedE a
 ·by_cases k2 : FormedE b
  ·have : decide (BefE a b) = decide (HasC b.past a.rep a.num) := decide_eq_decide.2 ⟨fun h => h.2.2, fun h => ⟨k1, k2, h⟩⟩
   rw [this]
   refine CallA.of pg ord123 Tryz.func123 rfl Tryz.ntmps123 Tryz.results123 rfl fun h0 G0 O0 => ?_
   repeat' (first|refine Sp.h ?_|refine Lk.r rfl ?_|refine Rf.mk rfl ?_|(apply Bd.t;(focus first|assumption|omega|rfl))|refine OpK.r rfl ?_|(refine All.mk ?_;intro _)|(apply TkB.r;(focus repeat constructor))|refine Ch.l ⟨rfl, rfl⟩ ?_|(apply Nm.r;focus repeat constructor)|(apply CA.draw;(focus rfl);(focus kernel_rfl);(focus kernel_rfl);(focus repeat' constructor);(focus rfl))|(apply Cl.p (h1);(focus ((repeat' (first|exact Lend.nil|apply Lend.keep|apply Lend.agg|fail));done)))|(apply Cl.p (h2);(focus ((repeat' (first|exact Lend.nil|apply Lend.keep|apply Lend.agg|fail));done)))|(apply Cl.p (h3);(focus ((repeat' (first|exact Lend.nil|apply Lend.keep|apply Lend.agg|fail));done)))|(apply Cl.p (h4);(focus ((repeat' (first|exact Lend.nil|apply Lend.keep|apply Lend.agg|fail));done))))
   all_goals exact Fin.p rfl rfl
  ·have : decide (BefE a b) = false := decide_eq_false fun h => k2 h.2.1
   rw [this]
   refine CallA.of pg ord123 Tryz.func123 rfl Tryz.ntmps123 Tryz.results123 rfl fun h0 G0 O0 => ?_
   repeat' (first|refine Sp.h ?_|refine Lk.r rfl ?_|refine Rf.mk rfl ?_|(apply Bd.t;(focus first|assumption|omega|rfl))|(apply Bd.f;(focus first|assumption|omega|exact Bool.false_ne_true))|refine OpK.r rfl ?_|(refine All.mk ?_;intro _)|(apply TkB.r;(focus repeat constructor))|refine Ch.l ⟨rfl, rfl⟩ ?_|(apply Nm.r;focus repeat constructor)|(apply CA.draw;(focus rfl);(focus kernel_rfl);(focus kernel_rfl);(focus repeat' constructor);(focus rfl))|(apply Cl.p (h1);(focus ((repeat' (first|exact Lend.nil|apply Lend.keep|apply Lend.agg|fail));done)))|(apply Cl.p (h2);(focus ((repeat' (first|exact Lend.nil|apply Lend.keep|apply Lend.agg|fail));done)))|(apply Cl.p (h3);(focus ((repeat' (first|exact Lend.nil|apply Lend.keep|apply Lend.agg|fail));done)))|(apply Cl.p (h4);(focus ((repeat' (first|exact Lend.nil|apply Lend.keep|apply Lend.agg|fail));done))))
   all_goals exact Fin.p rfl rfl
 ·have : decide (BefE a b) = false := decide_eq_false fun h => k1 h.1
  rw [this]
  refine CallA.of pg ord123 Tryz.func123 rfl Tryz.ntmps123 Tryz.results123 rfl fun h0 G0 O0 => ?_
  repeat' (first|refine Sp.h ?_|refine Lk.r rfl ?_|refine Rf.mk rfl ?_|(apply Bd.f;(focus first|assumption|omega|exact Bool.false_ne_true))|refine OpK.r rfl ?_|(refine All.mk ?_;intro _)|(apply TkB.r;(focus repeat constructor))|refine Ch.l ⟨rfl, rfl⟩ ?_|(apply Nm.r;focus repeat constructor)|(apply CA.draw;(focus rfl);(focus kernel_rfl);(focus kernel_rfl);(focus repeat' constructor);(focus rfl))|(apply Cl.p (h1);(focus ((repeat' (first|exact Lend.nil|apply Lend.keep|fail));done)))|(apply Cl.p (h2);(focus ((repeat' (first|exact Lend.nil|apply Lend.keep|fail));done)))|(apply Cl.p (h3);(focus ((repeat' (first|exact Lend.nil|apply Lend.keep|fail));done)))|(apply Cl.p (h4);(focus ((repeat' (first|exact Lend.nil|apply Lend.keep|fail));done))))
  all_goals exact Fin.p rfl rfl
set_option maxHeartbeats 4000000 in
theorem order32_o (l : List EvS) (hu : Uniq l) (hl : l.length ≤ 100000) : CallO Tryz.prog 152 [evs l] 37 13 (ordE l) evC := by
 refine CallA.of pg ord152 Tryz.func152 rfl Tryz.ntmps152 Tryz.results152 rfl fun h0 G0 O0 => ?_
 repeat' (first|refine Sp.h ?_|refine Lk.r rfl ?_|refine Rf.mk rfl ?_|(refine All.mk ?_;intro _)|(apply Fk.r;(focus (repeat (first|exact FillA.nil|(apply FillA.agg;(focus rfl);(focus rfl);(focus (repeat (first|exact SetAs.z|(apply SetAs.c;(focus (repeat first|assumption|constructor)))))))|(apply FillA.one;(focus rfl);(focus infer_instance);(focus (repeat first|assumption|constructor)))))))|refine Rf.mk ⟨rfl, rfl, rfl⟩ ?_|fail)
 rename_i v
 apply CA.retype (m := ([] : List EvS)) (g := evC)
 focus (repeat constructor)
 focus rfl
 refine CA.loop (fun x : Nat × Value × List EvS => ⟨[(0, evs l), (3, .ow x.2.1), (4, it x.1)], [arrR x.2.1 37 13 x.2.2 evC]⟩) (fun x => x.1 ≤ l.length ∧ x.2.2.length = x.1 ∧ (l.take x.1).Perm x.2.2 ∧ SrtE x.2.2) (fun x => l.length - x.1) (0, v, []) ⟨by repeat first|trivial|refine ⟨rfl,?_⟩,by repeat first|exact .nil|refine .cons (by repeat constructor) ?_⟩ ⟨Nat.zero_le _, rfl, by simp, List.Pairwise.nil⟩ ?_
 rintro ⟨i, w, s⟩ ⟨hi, hsl, hp, hs⟩
 simp only at hi hsl hp hs
 simp only
 by_cases hin : i < l.length
 ·obtain ⟨x, hx⟩ := get_of hin
  have hsu : l.take (i + 1) = l.take i ++ [x] := by rw [List.take_add_one, hx];rfl
  repeat' (first|refine Sp.h ?_|refine Lk.r rfl ?_|refine Rf.mk rfl ?_|(apply Bd.t;(focus first|assumption|omega|rfl))|(refine Im.mk ?_;intro _)|(apply TkA.r;(focus repeat constructor))|fail)
  refine CA.loop (fun j : Nat => ⟨[(0, evs l), (3, .ow w), (4, it i), (5, it j)], [arrR w 37 13 s evC]⟩) (fun j => j ≤ s.length ∧ ∀ y ∈ s.drop j, LtE x y) (fun j => j) s.length ?_ ⟨Nat.le_refl _, by simp⟩ ?_
  ·exact ⟨by repeat first|trivial|refine ⟨rfl,?_⟩,by repeat first|exact .nil|refine .cons (by repeat constructor) ?_⟩
  rintro j ⟨hj, hlt⟩
  have fin : (∀ m y, s.take j = m ++ [y] → ¬ LtE x y) → (l.take (i + 1)).Perm (s.take j ++ x :: s.drop j) ∧ SrtE (s.take j ++ x :: s.drop j) := fun h => by
   refine ⟨?_, srt_ins (by rw [List.take_append_drop];exact hs) hlt h⟩
   rw [hsu]
   refine (hp.append_right [x]).trans ?_
   refine List.perm_append_comm.trans ?_
   rw [List.singleton_append]
   refine (List.Perm.cons x (by rw [List.take_append_drop] : s.Perm (s.take j ++ s.drop j))).trans ?_
   exact List.perm_middle.symm
  have he : s.take (j - 0) ++ [x] ++ ([] ++ (s.drop j).take (s.length - j)) = s.take j ++ x :: s.drop j := by
   rw [List.take_of_length_le (l := s.drop j) (by simp)];simp
  by_cases hj0 : j = 0
  ·subst hj0
   obtain ⟨f1, f2⟩ := fin (fun m y h => by simp at h)
   repeat' (first|refine Sp.h ?_|refine Lk.r rfl ?_|refine Rf.mk rfl ?_|(apply Bd.f;(focus first|assumption|omega|exact Bool.false_ne_true))|refine OpK.r rfl ?_|(apply Om.mk;(focus first|omega|(simp <;> omega)))|(refine All.mk ?_;intro _)|(apply TkA.r;(focus repeat constructor))|(apply Ix.q;(focus exact rfl);(focus assumption))|refine Ce.l rfl ?_|refine Ce.r ?_|refine Ch.l ⟨rfl, rfl⟩ ?_|(apply Fk.r;(focus (repeat (first|exact FillA.nil|(apply FillA.agg;(focus rfl);(focus rfl);(focus (repeat (first|exact SetAs.z|(apply SetAs.c;(focus (repeat first|assumption|constructor)))))))|(apply FillA.one;(focus rfl);(focus infer_instance);(focus (repeat first|assumption|constructor)))))))|refine Rf.mk ⟨rfl, rfl⟩ ?_|refine Rf.mk ⟨rfl, rfl, rfl⟩ ?_|(apply Jx.r;(focus exact rfl);(focus first|omega|(simp;done)|(simp;omega)))|refine Mp.same ?_|(apply Mp.lit;(focus repeat (first|exact MpL.nil|(apply MpL.cons;(focus rfl))|(apply MpL.inv;(focus repeat constructor);(focus infer_instance)))))|(apply CA.draw;(focus rfl);(focus kernel_rfl);(focus kernel_rfl);(focus repeat' constructor);(focus rfl))|(apply Ov.n;(focus first|omega|(simp <;> omega)))|fail)
   all_goals rw [he]
   all_goals exact PA.lp (i + 1, _, s.take 0 ++ x :: s.drop 0) ⟨by repeat first|trivial|refine ⟨rfl,?_⟩,by repeat first|exact .nil|refine .cons (by repeat constructor) ?_⟩ ⟨⟨hin, by simp;omega, f1, f2⟩, by simp only;omega⟩
  ·obtain ⟨y, hy⟩ := get_of (l := s) (i := j - 1) (by omega)
   have hle := less32_p x y
   have htj : s.take j = s.take (j - 1) ++ [y] := by
    have := List.take_add_one (l := s) (i := j - 1)
    rw [show j - 1 + 1 = j by omega, hy] at this
    exact this
   by_cases hxy : LtE x y
   ·repeat' (first|refine Sp.h ?_|refine Lk.r rfl ?_|refine Rf.mk rfl ?_|(apply Bd.t;(focus first|assumption|omega|rfl))|refine OpK.r rfl ?_|(apply TkA.r;(focus repeat constructor))|(apply Ix.q;(focus exact rfl);(focus assumption))|(apply Ix.r;(focus assumption);(focus omega))|(apply At.r;(focus assumption))|refine Ch.l ⟨rfl, rfl⟩ ?_|(apply CA.draw;(focus rfl);(focus kernel_rfl);(focus kernel_rfl);(focus repeat' constructor);(focus rfl))|(apply Ov.n;(focus first|omega|(simp <;> omega)))|(apply Cl.p (hle);(focus repeat' (first|exact Lend.nil|apply Lend.keep|fail))))
    rw [show ((j : Int) - 1) = ((j - 1 : Nat) : Int) by omega]
    refine PA.lp (j - 1) ⟨by repeat first|trivial|refine ⟨rfl,?_⟩,by repeat first|exact .nil|refine .cons (by repeat constructor) ?_⟩ ⟨⟨by omega, fun z hz => ?_⟩, by omega⟩
    have hd : s.drop (j - 1) = y :: s.drop j := by
     have h9 := List.drop_eq_getElem_cons (l := s) (i := j - 1) (by omega)
     rw [(List.getElem?_eq_some_iff.1 hy).2, show j - 1 + 1 = j by omega] at h9
     exact h9
    rw [hd] at hz
    rcases List.mem_cons.1 hz with rfl|hz
    ·exact hxy
    ·exact hlt z hz
   ·obtain ⟨f1, f2⟩ := fin (fun m z h => by
     rw [htj] at h
     have := List.append_inj_right' h rfl
     cases this;exact hxy)
    repeat' (first|refine Sp.h ?_|refine Lk.r rfl ?_|refine Rf.mk rfl ?_|(apply Bd.t;(focus first|assumption|omega|rfl))|(apply Bd.f;(focus first|assumption|omega|exact Bool.false_ne_true))|refine OpK.r rfl ?_|(apply Om.mk;(focus first|omega|(simp <;> omega)))|(refine All.mk ?_;intro _)|(apply TkA.r;(focus repeat constructor))|(apply Ix.q;(focus exact rfl);(focus assumption))|(apply Ix.r;(focus assumption);(focus omega))|(apply At.r;(focus assumption))|refine Ce.l rfl ?_|refine Ce.r ?_|refine Ch.l ⟨rfl, rfl⟩ ?_|(apply Fk.r;(focus (repeat (first|exact FillA.nil|(apply FillA.agg;(focus rfl);(focus rfl);(focus (repeat (first|exact SetAs.z|(apply SetAs.c;(focus (repeat first|assumption|constructor)))))))|(apply FillA.one;(focus rfl);(focus infer_instance);(focus (repeat first|assumption|constructor)))))))|refine Rf.mk ⟨rfl, rfl⟩ ?_|refine Rf.mk ⟨rfl, rfl, rfl⟩ ?_|(apply Jx.r;(focus exact rfl);(focus first|omega|(simp;done)|(simp;omega)))|refine Mp.same ?_|(apply Mp.lit;(focus repeat (first|exact MpL.nil|(apply MpL.cons;(focus rfl))|(apply MpL.inv;(focus repeat constructor);(focus infer_instance)))))|(apply CA.draw;(focus rfl);(focus kernel_rfl);(focus kernel_rfl);(focus repeat' constructor);(focus rfl))|(apply Ov.n;(focus first|omega|(simp <;> omega)))|(apply Cl.p (hle);(focus repeat' (first|exact Lend.nil|apply Lend.keep|fail))))
    all_goals rw [he]
    all_goals exact PA.lp (i + 1, _, s.take j ++ x :: s.drop j) ⟨by repeat first|trivial|refine ⟨rfl,?_⟩,by repeat first|exact .nil|refine .cons (by repeat constructor) ?_⟩ ⟨⟨hin, by simp only [List.length_append, List.length_cons, List.length_take, List.length_drop];omega, f1, f2⟩, by simp only;omega⟩
 ·have hie : i = l.length := by omega
  subst hie
  rw [List.take_length] at hp
  have he := ordE_uniq hu hp hs
  subst he
  repeat' (first|refine Sp.h ?_|refine Lk.r rfl ?_|refine Rf.mk rfl ?_|(apply Bd.f;(focus first|assumption|omega|exact Bool.false_ne_true))|(refine Im.mk ?_;intro _)|(apply Nm.r;focus repeat constructor)|fail)
  exact ⟨_, _, .one (.same (.nil (by (repeat first|exact .nil|refine .cons (by repeat constructor) ?_)))), _, rfl, rfl⟩
abbrev u8s (l : List Int) : AV := .sl 1 l fun x => [.val (.int .u8 x)]
set_option maxHeartbeats 4000000 in
theorem extension_o (l : List EvS) (order : List Int) (X : List EvS) (hu : Uniq l) (hl : l.length ≤ 100000) (ho : ∀ x ∈ order, 0 ≤ x ∧ x ≤ 255) (hx : ExtR order [] (ordE l) X) : CallO Tryz.prog 82 [evs l, u8s order] 37 13 X evC := by
 have hor := order32_o l hu hl
 have hol := ordE_len l
 refine CallA.of pg ord82 Tryz.func82 rfl Tryz.ntmps82 Tryz.results82 rfl fun h0 G0 O0 => ?_
 repeat' (first|refine Sp.h ?_|refine Lk.r rfl ?_|refine Rf.mk rfl ?_|fail)
 (refine Cl.use (hor) (by repeat' (first|exact Lend.nil|apply Lend.keep|fail)) .nil rfl ?_;rintro _ _ ⟨_, rfl, rfl⟩)
 repeat' (first|refine Sp.h ?_|refine Lk.r rfl ?_|refine Rf.mk rfl ?_|(refine All.mk ?_;intro _)|(apply Fk.r;(focus (repeat (first|exact FillA.nil|(apply FillA.agg;(focus rfl);(focus rfl);(focus (repeat (first|exact SetAs.z|(apply SetAs.c;(focus (repeat first|assumption|constructor)))))))|(apply FillA.one;(focus rfl);(focus infer_instance);(focus (repeat first|assumption|constructor)))))))|refine Rf.mk ⟨rfl, rfl, rfl⟩ ?_|fail)
 rename_i w v
 apply CA.retype (v := v) (m := ([] : List EvS)) (g := evC)
 focus (repeat constructor)
 focus rfl
 refine CA.loop (fun x : Value × Value × List EvS × List EvS => ⟨[(0, evs l), (1, u8s order), (5, .ow x.1), (6, .ow x.2.1)], [arrR x.1 37 13 x.2.2.2 evC, arrR x.2.1 37 13 x.2.2.1 evC]⟩) (fun x => ExtR order x.2.2.1 x.2.2.2 X ∧ x.2.2.1.length + x.2.2.2.length ≤ 100000) (fun x => x.2.2.2.length) (w, v, [], ordE l) ⟨by repeat first|trivial|refine ⟨rfl,?_⟩,by repeat first|exact .nil|refine .cons (by repeat constructor) ?_⟩ ⟨hx, by simp;omega⟩ ?_
 rintro ⟨wr, wo, out, rest⟩ ⟨hr, hlen⟩
 simp only at hr hlen
 simp only
 cases hr with
 | done =>
  have hz : ([] : List EvS).length = 0 := rfl
  repeat' (first|refine Sp.h ?_|refine Lk.r rfl ?_|refine Rf.mk rfl ?_|(apply Bd.f;(focus first|assumption|omega|exact Bool.false_ne_true))|(apply TkA.r;(focus repeat constructor))|(apply Nm.r;focus repeat constructor)|fail)
  exact ⟨_, _, .one (.same (.nil (by (repeat first|exact .nil|refine .cons (by repeat constructor) ?_)))), _, rfl, rfl⟩
 | @step _ _ _ e i hf hat he hr =>
  have hi := (List.getElem?_eq_some_iff.1 he).1
  repeat' (first|refine Sp.h ?_|refine Lk.r rfl ?_|refine Rf.mk rfl ?_|(apply Bd.t;(focus first|assumption|omega|rfl))|(refine All.mk ?_;intro _)|(apply TkA.r;(focus repeat constructor))|(apply Fk.r;(focus (repeat (first|exact FillA.nil|(apply FillA.agg;(focus rfl);(focus rfl);(focus (repeat (first|exact SetAs.z|(apply SetAs.c;(focus (repeat first|assumption|constructor)))))))|(apply FillA.one;(focus rfl);(focus infer_instance);(focus (repeat first|assumption|constructor)))))))|refine Rf.mk ⟨rfl, rfl, rfl⟩ ?_|fail)
  rename_i vf
  apply CA.retype (v := vf) (m := ([] : List Int)) (g := intC)
  focus (repeat constructor)
  focus rfl
  refine CA.loop (fun x : Nat × Value => ⟨[(0, evs l), (1, u8s order), (5, .ow wr), (6, .ow wo), (7, .ow x.2), (8, it x.1)], [arrR wr 37 13 rest evC, arrR wo 37 13 out evC, arrR x.2 3 1 (freeN rest x.1) intC]⟩) (fun x => x.1 ≤ rest.length) (fun x => rest.length - x.1) (0, vf) ⟨by repeat first|trivial|refine ⟨rfl,?_⟩,by repeat first|exact .nil|refine .cons (by repeat constructor) ?_⟩ (Nat.zero_le _) ?_
  rintro ⟨q, vf⟩ hq
  simp only at hq
  simp only
  by_cases hqn : q < rest.length
  ·obtain ⟨x, hx⟩ := get_of hqn
   have hfl := free_len rest q
   repeat' (first|refine Sp.h ?_|refine Lk.r rfl ?_|refine Rf.mk rfl ?_|(apply Bd.t;(focus first|assumption|omega|rfl))|(apply TkA.r;(focus repeat constructor))|fail)
   refine CA.loop (fun s : Nat × Bool => ⟨[(0, evs l), (1, u8s order), (5, .ow wr), (6, .ow wo), (7, .ow vf), (8, it q), (9, bl s.2), (10, it s.1)], [arrR wr 37 13 rest evC, arrR wo 37 13 out evC, arrR vf 3 1 (freeN rest q) intC]⟩) (fun s => s.1 ≤ rest.length ∧ (s.2 = true ↔ ∀ y ∈ rest.take s.1, ¬ BefE y x)) (fun s => rest.length - s.1) (0, true) ⟨by repeat first|trivial|refine ⟨rfl,?_⟩,by repeat first|exact .nil|refine .cons (by repeat constructor) ?_⟩ ⟨Nat.zero_le _, by simp⟩ ?_
   rintro ⟨k, b⟩ ⟨hk, hb⟩
   simp only at hk hb
   simp only
   by_cases hkn : k < rest.length
   ·obtain ⟨y, hy⟩ := get_of hkn
    have hbf := before32_p y x
    have hsu : rest.take (k + 1) = rest.take k ++ [y] := by rw [List.take_add_one, hy];rfl
    cases b
    ·repeat' (first|refine Sp.h ?_|refine Lk.r rfl ?_|refine Rf.mk rfl ?_|(apply Bd.t;(focus first|assumption|omega|rfl))|refine OpK.r rfl ?_|(apply TkA.r;(focus repeat constructor))|(apply CA.draw;(focus rfl);(focus kernel_rfl);(focus kernel_rfl);(focus repeat' constructor);(focus rfl))|(apply Ov.n;(focus first|omega|(simp <;> omega)))|fail)
     refine PA.lp (k + 1, false) ⟨by repeat first|trivial|refine ⟨rfl,?_⟩,by repeat first|exact .nil|refine .cons (by repeat constructor) ?_⟩ ⟨⟨hkn, ?_⟩, by simp only;omega⟩
     simp only [Bool.false_eq_true, false_iff] at hb ⊢
     intro h
     exact hb fun z hz => h z (by rw [hsu];simp [hz])
    ·repeat' (first|refine Sp.h ?_|refine Lk.r rfl ?_|refine Rf.mk rfl ?_|(apply Bd.t;(focus first|assumption|omega|rfl))|refine OpK.r rfl ?_|(apply TkA.r;(focus repeat constructor))|(apply Ix.q;(focus exact rfl);(focus assumption))|(apply At.r;(focus assumption))|refine Ch.l ⟨rfl, rfl⟩ ?_|(apply CA.draw;(focus rfl);(focus kernel_rfl);(focus kernel_rfl);(focus repeat' constructor);(focus rfl))|(apply Ov.n;(focus first|omega|(simp <;> omega)))|(apply Cl.p (hbf);(focus repeat' (first|exact Lend.nil|apply Lend.keep|fail))))
     refine PA.lp (k + 1, decide (¬ BefE y x)) ⟨by repeat first|trivial|refine ⟨rfl,?_⟩,by repeat first|exact .nil|refine .cons (by repeat constructor) ?_⟩ ⟨⟨hkn, ?_⟩, by simp only;omega⟩
     simp only [decide_eq_true_eq]
     rw [hsu]
     have hb := hb.1 rfl
     constructor
     ·intro h z hz
      rcases List.mem_append.1 hz with hz|hz
      ·exact hb z hz
      ·rw [List.mem_singleton.1 hz];exact h
     ·intro h;exact h y (by simp)
   ·have hke : k = rest.length := by omega
    subst hke
    rw [List.take_length] at hb
    have hfs : freeN rest (q + 1) = freeN rest q ++ (if b = true then [(q : Int)] else []) := by
     rw [freeN, hx]
     by_cases h9 : FreeE rest x
     ·rw [if_pos (hb.2 h9)];simp only [if_pos h9]
     ·rw [if_neg (fun h8 => h9 (hb.1 h8))];simp only [if_neg h9]
    cases b
    ·rw [if_neg (by simp), List.append_nil] at hfs
     repeat' (first|refine Sp.h ?_|refine Lk.r rfl ?_|refine Rf.mk rfl ?_|(apply Bd.f;(focus first|assumption|omega|exact Bool.false_ne_true))|(apply TkA.r;(focus repeat constructor))|(apply Ov.n;(focus first|omega|(simp <;> omega)))|fail)
     rw [← hfs]
     exact PA.lp (q + 1, vf) ⟨by repeat first|trivial|refine ⟨rfl,?_⟩,by repeat first|exact .nil|refine .cons (by repeat constructor) ?_⟩ ⟨hqn, by simp only;omega⟩
    ·rw [if_pos rfl] at hfs
     repeat' (first|refine Sp.h ?_|refine Lk.r rfl ?_|refine Rf.mk rfl ?_|(apply Bd.f;(focus first|assumption|omega|exact Bool.false_ne_true))|(apply Om.mk;(focus first|omega|(simp <;> omega)))|(refine All.mk ?_;intro _)|(apply TkA.r;(focus repeat constructor))|refine Ce.r ?_|(apply Fk.r;(focus (repeat (first|exact FillA.nil|(apply FillA.agg;(focus rfl);(focus rfl);(focus (repeat (first|exact SetAs.z|(apply SetAs.c;(focus (repeat first|assumption|constructor)))))))|(apply FillA.one;(focus rfl);(focus infer_instance);(focus (repeat first|assumption|constructor)))))))|refine Rf.mk ⟨rfl, rfl⟩ ?_|refine Rf.mk ⟨rfl, rfl, rfl⟩ ?_|(apply Mp.lit;(focus repeat (first|exact MpL.nil|(apply MpL.cons;(focus rfl))|(apply MpL.inv;(focus repeat constructor);(focus infer_instance)))))|(apply Ov.n;(focus first|omega|(simp <;> omega)))|fail)
     rw [← hfs]
     exact PA.lp (q + 1, _) ⟨by repeat first|trivial|refine ⟨rfl,?_⟩,by repeat first|exact .nil|refine .cons (by repeat constructor) ?_⟩ ⟨hqn, by simp only;omega⟩
  ·have hqe : q = rest.length := by omega
   subst hqe
   obtain ⟨fr, hfr⟩ : ∃ fr, fr = freeN rest rest.length := ⟨_, rfl⟩
   rw [← hfr] at hf hat ⊢
   have hfl : 0 < fr.length := List.length_pos_iff.2 hf
   obtain ⟨f0, hf0⟩ := get_of (l := fr) (i := 0) hfl
   have her : [] ++ (rest.drop 0).take (i - 0) ++ (rest.drop (i + 1)).take (rest.length - (i + 1)) = rest.eraseIdx i := by
    rw [List.take_of_length_le (l := rest.drop (i + 1)) (by simp), List.eraseIdx_eq_take_drop_succ];rfl
   have hel : (rest.eraseIdx i).length + 1 = rest.length := by rw [List.length_eraseIdx, if_pos hi];omega
   by_cases hol : out.length < order.length
   ·obtain ⟨o, ho1⟩ := get_of hol
    have ho2 := ho o (List.mem_of_getElem? ho1)
    have hm1 : 0 ≤ o % (fr.length : Int) := Int.emod_nonneg _ (by omega)
    have hm2 : o % (fr.length : Int) < fr.length := Int.emod_lt_of_pos _ (by omega)
    obtain ⟨y, hy⟩ := get_of (l := fr) (i := (o % (fr.length : Int)).toNat) (by omega)
    have hat : y = (i : Int) := by rw [atF, ho1] at hat;simp only at hat;rw [hy] at hat;exact hat
    subst hat
    repeat' (first|refine Sp.h ?_|refine Lk.r rfl ?_|refine Rf.mk rfl ?_|(apply Bd.t;(focus first|assumption|omega|rfl))|(apply Bd.f;(focus first|assumption|omega|exact Bool.false_ne_true))|refine OpK.r rfl ?_|(apply Om.mk;(focus first|omega|(simp <;> omega)))|(refine Im.mk ?_;intro _)|(refine All.mk ?_;intro _)|(apply TkA.r;(focus repeat constructor))|(apply Ix.q;(focus exact rfl);(focus assumption))|(apply Ix.r;(focus assumption);(focus omega))|(apply At.r;(focus assumption))|refine Ce.l rfl ?_|refine Ce.r ?_|refine Ch.l ⟨rfl, rfl⟩ ?_|(apply Fk.r;(focus (repeat (first|exact FillA.nil|(apply FillA.agg;(focus rfl);(focus rfl);(focus (repeat (first|exact SetAs.z|(apply SetAs.c;(focus (repeat first|assumption|constructor)))))))|(apply FillA.one;(focus rfl);(focus infer_instance);(focus (repeat first|assumption|constructor)))))))|refine Rf.mk ⟨rfl, rfl⟩ ?_|refine Rf.mk ⟨rfl, rfl, rfl⟩ ?_|(apply Jx.r;(focus exact rfl);(focus first|omega|(simp;done)|(simp;omega)))|refine Mp.same ?_|(apply Mp.lit;(focus repeat (first|exact MpL.nil|(apply MpL.cons;(focus rfl))|(apply MpL.inv;(focus repeat constructor);(focus infer_instance)))))|(apply CA.draw;(focus rfl);(focus kernel_rfl);(focus kernel_rfl);(focus repeat' constructor);(focus rfl))|(apply Ov.n;(focus first|omega|(simp <;> omega)))|(apply Cvk.i64;(focus rfl);(focus omega))|fail)
    all_goals rw [her]
    all_goals exact PA.lp (_, _, out ++ [e], rest.eraseIdx i) ⟨by repeat first|trivial|refine ⟨rfl,?_⟩,by repeat first|exact .nil|refine .cons (by repeat constructor) ?_⟩ ⟨⟨hr, by simp only [List.length_append, List.length_cons, List.length_nil];omega⟩, by simp only;omega⟩
   ·have ho1 : order[out.length]? = none := List.getElem?_eq_none (by omega)
    have hat : f0 = (i : Int) := by rw [atF, ho1] at hat;simp only at hat;rw [hf0] at hat;exact hat
    subst hat
    repeat' (first|refine Sp.h ?_|refine Lk.r rfl ?_|refine Rf.mk rfl ?_|(apply Bd.f;(focus first|assumption|omega|exact Bool.false_ne_true))|refine OpK.r rfl ?_|(apply Om.mk;(focus first|omega|(simp <;> omega)))|(refine Im.mk ?_;intro _)|(refine All.mk ?_;intro _)|(apply TkA.r;(focus repeat constructor))|(apply Ix.q;(focus exact rfl);(focus assumption))|(apply At.r;(focus assumption))|refine Ce.l rfl ?_|refine Ce.r ?_|refine Ch.l ⟨rfl, rfl⟩ ?_|(apply Fk.r;(focus (repeat (first|exact FillA.nil|(apply FillA.agg;(focus rfl);(focus rfl);(focus (repeat (first|exact SetAs.z|(apply SetAs.c;(focus (repeat first|assumption|constructor)))))))|(apply FillA.one;(focus rfl);(focus infer_instance);(focus (repeat first|assumption|constructor)))))))|refine Rf.mk ⟨rfl, rfl⟩ ?_|refine Rf.mk ⟨rfl, rfl, rfl⟩ ?_|(apply Jx.r;(focus exact rfl);(focus first|omega|(simp;done)|(simp;omega)))|refine Mp.same ?_|(apply Mp.lit;(focus repeat (first|exact MpL.nil|(apply MpL.cons;(focus rfl))|(apply MpL.inv;(focus repeat constructor);(focus infer_instance)))))|(apply CA.draw;(focus rfl);(focus kernel_rfl);(focus kernel_rfl);(focus repeat' constructor);(focus rfl))|(apply Ov.n;(focus first|omega|(simp <;> omega)))|fail)
    all_goals rw [her]
    all_goals exact PA.lp (_, _, out ++ [e], rest.eraseIdx i) ⟨by repeat first|trivial|refine ⟨rfl,?_⟩,by repeat first|exact .nil|refine .cons (by repeat constructor) ?_⟩ ⟨⟨hr, by simp only [List.length_append, List.length_cons, List.length_nil];omega⟩, by simp only;omega⟩
end Go.Proofs.YtmllihbhphnolaaGreat
namespace Go.CF
open Go
structure OX (o o' : List Res) : Prop where
 x : ∀ {h0 : Heap} {G0 O0 : Nat → Prop} {h : Heap} {G : Nat → Prop} {Os : List (Nat → Prop)}, HpOK h0 G0 O0 o h G Os → ∃ G' Os', HpOK h0 G0 O0 o' h G' Os' ∧ ∀ b, G b → G' b
theorem OX.trans {o o1 o2 : List Res} (a : OX o o1) (b : OX o1 o2) : OX o o2 := ⟨fun c => by
 obtain ⟨G1, Os1, c1, g1⟩ := a.x c
 obtain ⟨G2, Os2, c2, g2⟩ := b.x c1
 exact ⟨G2, Os2, c2, fun b hb => g2 b (g1 b hb)⟩⟩
theorem OX.blk {o r1 r2 r3 : List Res} {b : Nat} {T : TypeId} {cs cs' : List AV} (tk : Take o (blkR b T cs) r1) (x : FX o cs cs' r2) (tk2 : Take r2 (blkR b T cs) r3) : OX o (blkR b T cs' :: r3) := ⟨fun {h0 G0 O0 h G Os} c => by
 obtain ⟨O, os', c2⟩ := c.take tk
 obtain ⟨ho, vs, hb, hr⟩ := c2.own.1
 obtain ⟨G', Os', k1, k2, k3⟩ := x.rep c hr.t
 obtain ⟨O2, os2, c3⟩ := k1.take tk2
 obtain ⟨ho2, vs2, hb2, hr2⟩ := c3.own.1
 have hv : vs2 = vs := by
  have := hb2.get.symm.trans hb.get
  simpa using this
 subst hv
 exact ⟨G', O2 :: os2, c3.perm ⟨⟨ho2, vs2, hb2, ⟨k2, hr.one⟩⟩, c3.own.2⟩ (List.Perm.refl _), k3⟩⟩
theorem CallA.own {P : Program} {f : FuncId} {asx : List AV} {own : List Res} {K K' : AV → List Res → Prop} (h : CallA P f asx own K) (hK : ∀ r o, K r o → ∃ o', OX o o' ∧ K' r o') : CallA P f asx own K' :=
 ⟨fun hh G Os vs h1 h2 => (h.run hh G Os vs h1 h2).mono fun v' h' ⟨r, o, G', Os', hk, g1, g2⟩ => by
  obtain ⟨o', ⟨x⟩, hk'⟩ := hK r o hk
  obtain ⟨G2, Os2, k1, k2⟩ := x g2
  exact ⟨r, o', G2, Os2, hk', AV.mono _ k2 g1, k1⟩⟩
theorem CallA.args {P : Program} {f : FuncId} {asx as' : List AV} {own : List Res} {K : AV → List Res → Prop} (w : RLe asx as') (h : CallA P f as' own K) : CallA P f asx own K :=
 ⟨fun hh G Os vs h1 h2 => h.run hh G Os vs (w.rep h1) h2⟩
theorem CallA.fxr {P : Program} {f : FuncId} {asx : List AV} {own : List Res} {K K' : AV → List Res → Prop} (h : CallA P f asx own K) (hK : ∀ r o, K r o → ∃ a o', FX o [r] [a] o' ∧ K' a o') : CallA P f asx own K' :=
 ⟨fun hh G Os vs h1 h2 => (h.run hh G Os vs h1 h2).mono fun v' h' ⟨r, o, G', Os', hk, g1, g2⟩ => by
  obtain ⟨a, o', x, hk'⟩ := hK r o hk
  obtain ⟨G2, Os2, k1, k2, k3⟩ := x.rep g2 (vs := [v']) ⟨g1, trivial⟩
  exact ⟨a, o', G2, Os2, hk', k2.1, k1⟩⟩
theorem CA.own {P : Program} {tt : Nat → Option TI} {en : Nat → Bool} {ok : PgOK P tt en} {T0 : Nat → Ord × (Nat → Cls)} {m0 : Nat} {rs : Array ResultVar} {K : AV → List Res → Prop} {h0 : Heap} {G0 O0 : Nat → Prop} {k : List KI} {e : EA} {o o' : List Res} {y : Code} (x : OX o o')
  (h : CA ⟨P, tt, en, ok, T0, m0, rs, K, h0, G0, O0, ⟨none⟩⟩ k y e o') : CA ⟨P, tt, en, ok, T0, m0, rs, K, h0, G0, O0, ⟨none⟩⟩ k y e o := by
 refine ⟨fun env hh G Os cn => ?_⟩
 obtain ⟨G', Os3, k1, k3⟩ := x.x cn.hp
 exact h.h env hh G' Os3 ⟨k1, fun q c hq => by
  obtain ⟨u, q1, q2⟩ := cn.env q c hq
  exact ⟨u, q1, AV.mono _ k3 q2⟩, FpOK.none rfl⟩
end Go.CF
namespace Go.CF
open Go
theorem FX.s1 {α : Type} {o rest own : List Res} {l l' : List AV} {v : Value} {T sz : Nat} {xs : List α} {f : α → List AV} (tk : Take o (arrR v T sz xs f) rest) (hl : xs.length ≤ 9223372036854775807) (h : FX rest l l' own) : FX o (.ow v :: l) (.sl sz xs f :: l') own := .sl tk hl (FX.refl _) h
theorem FX.k {o own : List Res} {a : AV} {l l' : List AV} (h : FX o l l' own) : FX o (a :: l) (a :: l') own := .le (ALe.refl a) h
theorem FX.kn {α : Type} {o own : List Res} {sz : Nat} {f : α → List AV} {l l' : List AV} (h : FX o l l' own) : FX o (.val (.slice none 0 0) :: l) (.sl sz [] f :: l') own := .le ALe.nil h
theorem Res.eq {a b : Res} (h : a.R = b.R) : a = b := by
 cases a;cases b;cases h;rfl
theorem arrR_eq {α β : Type} {v : Value} {T sz : Nat} {l : List α} {f : α → List AV} {m : List β} {g : β → List AV} (he : l.map f = m.map g) : arrR v T sz l f = arrR v T sz m g := Res.eq (by
 have hl : l.length = m.length := by have := congrArg List.length he;simpa using this
 funext h O G
 refine propext ⟨fun ⟨ho, rows, h1, h2⟩ => ⟨ho, rows, by rw [← hl];exact h1, h2.map he.symm⟩, fun ⟨ho, rows, h1, h2⟩ => ⟨ho, rows, by rw [hl];exact h1, h2.map he⟩⟩)
theorem ALe.nilow : ALe (.val (.slice none 0 0)) (.ow (.slice none 0 0)) := ⟨fun h => ⟨h, none, 0, 0, rfl⟩⟩
theorem OX.recell {o rest : List Res} {b : Nat} {T : TypeId} {cs : List AV} (tk : Take o (blkR b T cs) rest) (cs' : List AV) (w : RLe cs cs') : OX o (blkR b T cs' :: rest) := ⟨fun {h0 G0 O0 h G Os} c => by
 obtain ⟨O, os', c2⟩ := c.take tk
 obtain ⟨ho, vs, hb, hr⟩ := c2.own.1
 exact ⟨G, O :: os', c2.perm ⟨⟨ho, vs, hb, ⟨w.rep hr.t, hr.one⟩⟩, c2.own.2⟩ (List.Perm.refl _), fun _ h => h⟩⟩
theorem OX.nil {α : Type} (o : List Res) (T sz : Nat) (f : α → List AV) : OX o (arrR (.slice none 0 0) T sz ([] : List α) f :: o) := ⟨fun {h0 G0 O0 h G Os} c => ⟨G, _, HpOK.nilA (o := o) c T sz f, fun _ h => h⟩⟩
end Go.CF
namespace Go.Proofs.YtmllihbhphnolaaGreat
open Go Go.CF
set_option maxRecDepth 20000
theorem bef_p (a b : EvS) : CallP Tryz.prog 96 [evA' a, evA' b] (bl (decide (HasC b.past a.rep a.num))) := by
 have g1 := name_p a
 have g2 := hasC_p b.past a.rep a.num
 refine CallA.of pg ord96 Tryz.func96 rfl Tryz.ntmps96 Tryz.results96 rfl fun h0 G0 O0 => ?_
 repeat' (first|refine Sp.h ?_|refine Lk.r rfl ?_|refine Rf.mk rfl ?_|refine OpK.r rfl ?_|(refine All.mk ?_;intro _)|(apply TkB.r;(focus repeat constructor))|refine Ch.l ⟨rfl, rfl⟩ ?_|(apply Nm.r;focus repeat constructor)|(apply CA.draw;(focus rfl);(focus kernel_rfl);(focus kernel_rfl);(focus repeat' constructor);(focus rfl))|(apply Cl.p (g1);(focus ((repeat' (first|exact Lend.nil|apply Lend.keep|fail));done)))|(apply Cl.p (g2);(focus ((repeat' (first|exact Lend.nil|apply Lend.keep|fail));done))))
 exact Fin.p rfl rfl
theorem seen1_p (k : Int) (w x : WrS) : CallP Tryz.prog 259 [evW' x, .ad [it k] 0, .ad (wrC w) 0] (bl (decide (x.2.1 = k ∧ HasC x.1.past w.1.rep w.1.num))) := by
 have h := bef_p w.1 x.1
 obtain ⟨e, u1, u2, u3⟩ := w
 obtain ⟨f, v1, v2, v3⟩ := x
 simp only at h ⊢
 refine CallA.of pg ord259 Tryz.func259 rfl Tryz.ntmps259 Tryz.results259 rfl fun h0 G0 O0 => ?_
 by_cases hk : v1 = k
 ·repeat' (first|refine Sp.h ?_|refine Lk.r rfl ?_|refine Rf.mk rfl ?_|(apply Bd.t;(focus first|assumption|omega|rfl))|(refine All.mk ?_;intro _)|(apply TkB.r;(focus repeat constructor))|refine Ch.r ?_|(apply Nm.r;focus repeat constructor)|(apply Cl.p (h);(focus repeat' (first|exact Lend.nil|apply Lend.keep|fail))))
  refine Fin.p rfl (vb (decide_eq_decide.2 ?_))
  simp [hk]
 ·repeat' (first|refine Sp.h ?_|refine Lk.r rfl ?_|refine Rf.mk rfl ?_|(apply Bd.f;(focus first|assumption|omega|exact Bool.false_ne_true))|(refine All.mk ?_;intro _)|(apply TkB.r;(focus repeat constructor))|(apply Nm.r;focus repeat constructor)|(apply Cl.p (h);(focus repeat' (first|fail))))
  refine Fin.p rfl (vb ?_)
  simp [hk]
theorem seen_p (w : WrS) (L : List WrS) (k : Int) : CallP Tryz.prog 204 [evW' w, wrs L, it k] (bl (decide (SeenW w.1 L k))) := by
 have hc := containsW_p (seen1_p k w) rfl L
 refine CallA.of pg ord204 Tryz.func204 rfl Tryz.ntmps204 Tryz.results204 rfl fun h0 G0 O0 => ?_
 (repeat' (first|(show CA _ _ (Code.region 1 _ _) _ _;apply Stopped.out)|refine Sp.h ?_|refine Lk.r rfl ?_|refine Rf.mk rfl ?_|(refine All.mk ?_;intro _)|fail));any_goals apply Stopped.mk
 refine CA.freezeB 3 rfl (by repeat constructor) ?_
 refine CA.freezeB 5 rfl (by repeat constructor) ?_
 repeat' (first|refine Sp.h ?_|refine Lk.r rfl ?_|refine Rf.mk rfl ?_|(apply Nm.r;focus repeat constructor)|(apply Cl.p (hc);(focus repeat' (first|exact Lend.nil|apply Lend.keep|fail))))
 refine Fin.p rfl (vb (decide_eq_decide.2 ?_))
 rw [idxN_lt]
 simp [SeenW]
theorem ebit_a (b : Bool) : CallA Tryz.prog 201 [bl b] [] fun r own => ∃ v, r = .ow v ∧ own = [arrR v 3 1 [[it (if b = true then 1 else 0)]] id] := by
 refine CallA.of pg ord201 Tryz.func201 rfl Tryz.ntmps201 Tryz.results201 rfl fun h0 G0 O0 => ?_
 cases b
 ·repeat' (first|refine Sp.h ?_|refine Lk.r rfl ?_|refine Rf.mk rfl ?_|(refine All.mk ?_;intro _)|(apply Fk.r;(focus (repeat (first|exact FillA.nil|(apply FillA.agg;(focus rfl);(focus rfl);(focus (repeat (first|exact SetAs.z|(apply SetAs.c;(focus (repeat first|assumption|constructor)))))))|(apply FillA.one;(focus rfl);(focus infer_instance);(focus (repeat first|assumption|constructor)))))))|(apply Nm.r;focus repeat constructor)|refine Rf.mk ⟨rfl, rfl, rfl⟩ ?_|fail)
  exact ⟨_, _, .one (.same (.nil (by (repeat first|exact .nil|refine .cons (by repeat constructor) ?_)))), _, rfl, rfl⟩
 ·repeat' (first|refine Sp.h ?_|refine Lk.r rfl ?_|refine Rf.mk rfl ?_|(refine All.mk ?_;intro _)|(apply Fk.r;(focus (repeat (first|exact FillA.nil|(apply FillA.agg;(focus rfl);(focus rfl);(focus (repeat (first|exact SetAs.z|(apply SetAs.c;(focus (repeat first|assumption|constructor)))))))|(apply FillA.one;(focus rfl);(focus infer_instance);(focus (repeat first|assumption|constructor)))))))|(apply Nm.r;focus repeat constructor)|refine Rf.mk ⟨rfl, rfl, rfl⟩ ?_|fail)
  exact ⟨_, _, .one (.same (.nil (by (repeat first|exact .nil|refine .cons (by repeat constructor) ?_)))), _, rfl, rfl⟩
theorem ebit_p (b : Bool) : CallP Tryz.prog 201 [bl b] (ints [if b = true then 1 else 0]) :=
 CallA.fx (ebit_a b) fun _ _ ⟨_, e1, e2⟩ => by
  subst e1;subst e2
  exact .sl .here (Nat.le_of_ble_eq_true rfl) (.agg (.le (ALe.refl _) .nil) .nil) .nil
theorem notk_p (k : Int) (w : WrS) : CallP Tryz.prog 199 [evW' w, .ad [it k] 0] (bl (!decide (w.2.1 = k))) := by
 obtain ⟨e, u1, u2, u3⟩ := w
 simp only
 refine CallA.of pg ord199 Tryz.func199 rfl Tryz.ntmps199 Tryz.results199 rfl fun h0 G0 O0 => ?_
 repeat' (first|refine Sp.h ?_|refine Lk.r rfl ?_|refine Rf.mk rfl ?_|(refine All.mk ?_;intro _)|(apply TkB.r;(focus repeat constructor))|(apply Nm.r;focus repeat constructor)|fail)
 refine Fin.p rfl (vb ?_)
 simp
def ofW (L : List WrS) (k : Int) : List WrS := L.filter fun w => decide (w.2.1 = k)
theorem of_a (L : List WrS) (k : Int) (hl : L.length ≤ 1000000) : CallO Tryz.prog 196 [wrs L, it k] 266 16 (ofW L k) wrC := by
 have h1 := cloneW_o L (by omega)
 refine CallA.of pg ord196 Tryz.func196 rfl Tryz.ntmps196 Tryz.results196 rfl fun h0 G0 O0 => ?_
 (repeat' (first|(show CA _ _ (Code.region 1 _ _) _ _;apply Stopped.out)|refine Sp.h ?_|refine Lk.r rfl ?_|refine Rf.mk rfl ?_|(refine All.mk ?_;intro _)|fail));any_goals apply Stopped.mk
 refine CA.freezeB 3 rfl (by repeat constructor) ?_
 repeat' (first|refine Sp.h ?_|refine Lk.r rfl ?_|refine Rf.mk rfl ?_|fail)
 (refine Cl.use (h1) (by repeat' (first|exact Lend.nil|apply Lend.keep|fail)) .nil rfl ?_;rintro _ _ ⟨_, rfl, rfl⟩)
 rename_i v
 repeat' (first|refine Sp.h ?_|refine Lk.r rfl ?_|refine Rf.mk rfl ?_|fail)
 have h2 := deleteW_a (notk_p k) rfl v L hl
 (apply Cl.use (h2);(focus repeat' (first|exact Lend.nil|apply Lend.keep|fail));(focus (repeat (first|exact Takes.nil|(apply Takes.cons;(focus repeat constructor)))));(focus rfl))
 rintro _ _ ⟨w', rfl, rfl⟩
 repeat' (first|refine Sp.h ?_|refine Lk.r rfl ?_|(apply Nm.r;focus repeat constructor)|fail)
 have he : (L.filter fun x => !(!decide (x.2.1 = k))) = ofW L k := by simp [ofW]
 rw [he]
 exact ⟨_, _, .one (.same (.nil (by (repeat first|exact .nil|refine .cons (by repeat constructor) ?_)))), _, rfl, rfl⟩
theorem of_p (L : List WrS) (k : Int) (hl : L.length ≤ 1000000) : CallP Tryz.prog 196 [wrs L, it k] (wrs (ofW L k)) :=
 CallA.fz (Nat.le_trans (List.length_filter_le _ _) (by omega)) (of_a L k hl)
end Go.Proofs.YtmllihbhphnolaaGreat
namespace Go.Proofs.YtmllihbhphnolaaGreat
open Go Go.CF
set_option maxRecDepth 20000
def cmpT (a b : EvS) : Int := orI [cmpI a.time b.time, cmpI a.rep b.rep]
theorem cmpT_p (a b : WrS) : CallP Tryz.prog 209 [evW' a, evW' b] (it (cmpT a.1 b.1)) := by
 obtain ⟨e, u1, u2, u3⟩ := a
 obtain ⟨f, v1, v2, v3⟩ := b
 have g1 := compareI_p e.time f.time
 have g2 := compareI_p e.rep f.rep
 have h := orI_p [cmpI e.time f.time, cmpI e.rep f.rep]
 refine CallA.of pg ord209 Tryz.func209 rfl Tryz.ntmps209 Tryz.results209 rfl fun h0 G0 O0 => ?_
 repeat' (first|refine Sp.h ?_|refine Lk.r rfl ?_|refine Rf.mk rfl ?_|refine OpK.r rfl ?_|(refine All.mk ?_;intro _)|(apply TkB.r;(focus repeat constructor))|(apply Fk.r;(focus (repeat (first|exact FillA.nil|(apply FillA.agg;(focus rfl);(focus rfl);(focus (repeat (first|exact SetAs.z|(apply SetAs.c;(focus (repeat first|assumption|constructor)))))))|(apply FillA.one;(focus rfl);(focus infer_instance);(focus (repeat first|assumption|constructor)))))))|refine Rf.mk ⟨rfl, rfl, rfl⟩ ?_|(apply CA.draw;(focus rfl);(focus kernel_rfl);(focus kernel_rfl);(focus repeat' constructor);(focus rfl))|(apply Cl.p (g1);(focus ((repeat' (first|exact Lend.nil|apply Lend.keep|fail));done)))|(apply Cl.p (g2);(focus ((repeat' (first|exact Lend.nil|apply Lend.keep|fail));done))))
 (apply Cl.lend (h);(focus repeat' (first|exact Lend.nil|(apply Lend.lendm;(focus repeat constructor);(focus rfl);(focus first|omega|decide|(simp;omega)|exact Nat.le_of_ble_eq_true rfl))|fail)))
 repeat' (first|refine Sp.h ?_|refine Lk.r rfl ?_|refine OpK.r rfl ?_|(apply Nm.r;focus repeat constructor)|fail)
 exact Fin.p rfl rfl
def maxW (a : WrS) (l : List WrS) : WrS := l.foldl (fun m x => if 0 < cmpT x.1 m.1 then x else m) a
abbrev zW : List AV := [it 0, it 0, it 0, .val (.slice none 0 0), it 0, it 0, it 0, it 0, it 0, it 0, it 0, it 0, it 0, it 0, it 0, it 0]
set_option maxHeartbeats 2000000 in
theorem max_p (L : List WrS) (a : WrS) (h0 : L[0]? = some a) : CallP Tryz.prog 208 [wrs L, .fn 209 []] (evW' (maxW a (L.drop 1))) := by
 have hlen := (List.getElem?_eq_some_iff.1 h0).1
 refine CallA.of pg ord208 Tryz.func208 rfl Tryz.ntmps208 Tryz.results208 rfl fun h0 G0 O0 => ?_
 repeat' (first|refine Sp.h ?_|refine Lk.r rfl ?_|refine Rf.mk rfl ?_|(apply Bd.f;(focus first|assumption|omega|exact Bool.false_ne_true))|(refine Im.mk ?_;intro _)|(refine All.mk ?_;intro _)|(apply TkB.r;(focus repeat constructor))|(apply Ix.q;(focus exact rfl);(focus assumption))|refine Ch.l ⟨rfl, rfl⟩ ?_|(apply SetAsk.r;(focus (repeat (first|exact SetAs.z|(apply SetAs.c;(focus (repeat first|assumption|constructor)))))))|(apply Nm.r;focus repeat constructor)|fail)
 rename_i b4 hl9 b5
 refine CA.loop (fun x : Nat × WrS => ⟨[(0, wrs L), (1, .fn 209 []), (4, pm b4), (5, pm b5), (6, it (x.1 : Nat))], [blkR b5 266 (wrC x.2), blkR b4 266 zW]⟩)
  (fun x => 1 ≤ x.1 ∧ x.1 ≤ L.length ∧ x.2 = maxW a ((L.take x.1).drop 1)) (fun x => L.length - x.1) (1, a) ⟨by repeat first|trivial|refine ⟨rfl,?_⟩,by repeat first|exact .nil|refine .cons (by repeat constructor) ?_⟩ ⟨Nat.le_refl _, hlen, ?_⟩ ?_
 ·have : ((L.take 1).drop 1) = [] := by simp
  show a = _
  rw [this];rfl
 rintro ⟨i, w⟩ ⟨hi1, hi, hw⟩
 simp only at hi1 hi hw
 by_cases hin : i < L.length
 ·obtain ⟨x, hx⟩ := get_of hin
  have hc := cmpT_p x w
  have hs : maxW a ((L.take (i + 1)).drop 1) = if 0 < cmpT x.1 w.1 then x else w := by
   rw [List.take_add_one, hx, List.drop_append_of_le_length (by simp;omega)]
   simp only [maxW, Option.toList_some, List.foldl_append, List.foldl_cons, List.foldl_nil] at hw ⊢
   rw [← hw]
  repeat' (first|refine Sp.h ?_|refine Lk.r rfl ?_|refine Rf.mk rfl ?_|(apply Bd.t;(focus first|assumption|omega|rfl))|(refine Bd.mk ?_ ?_ <;> intro _)|refine OpK.r rfl ?_|(refine Im.mk ?_;intro _)|(apply TkB.r;(focus repeat constructor))|(apply Ix.q;(focus exact rfl);(focus assumption))|refine Ch.l ⟨rfl, rfl⟩ ?_|(apply SetAsk.r;(focus (repeat (first|exact SetAs.z|(apply SetAs.c;(focus (repeat first|assumption|constructor)))))))|(apply CA.draw;(focus rfl);(focus kernel_rfl);(focus kernel_rfl);(focus repeat' constructor);(focus rfl))|(apply Ov.n;(focus first|omega|(simp <;> omega)))|(apply Cl.p (hc);(focus ((repeat' (first|exact Lend.nil|apply Lend.keep|fail));done))))
  ·rename_i h9
   rw [if_pos h9] at hs
   exact PA.lp (i + 1, x) ⟨by repeat first|trivial|refine ⟨rfl,?_⟩,by repeat first|exact .nil|refine .cons (by repeat constructor) ?_⟩ ⟨⟨by simp only;omega, hin, hs.symm⟩, by simp only;omega⟩
  ·rename_i h9
   rw [if_neg h9] at hs
   exact PA.lp (i + 1, w) ⟨by repeat first|trivial|refine ⟨rfl,?_⟩,by repeat first|exact .nil|refine .cons (by repeat constructor) ?_⟩ ⟨⟨by simp only;omega, hin, hs.symm⟩, by simp only;omega⟩
 ·have hie : i = L.length := by omega
  subst hie
  rw [List.take_length] at hw
  subst hw
  repeat' (first|refine Sp.h ?_|refine Lk.r rfl ?_|refine Rf.mk rfl ?_|(apply Bd.f;(focus first|assumption|omega|exact Bool.false_ne_true))|(refine Im.mk ?_;intro _)|(apply TkB.r;(focus repeat constructor))|refine Ch.l ⟨rfl, rfl⟩ ?_|(apply SetAsk.r;(focus (repeat (first|exact SetAs.z|(apply SetAs.c;(focus (repeat first|assumption|constructor)))))))|(apply Nm.r;focus repeat constructor)|fail)
  exact Fin.p rfl rfl
theorem live1_p (L : List WrS) (w : WrS) : CallP Tryz.prog 203 [evW' w, .ad [wrs L] 0] (bl (!decide (SeenW w.1 L 1))) := by
 have h := seen_p w L 1
 refine CallA.of pg ord203 Tryz.func203 rfl Tryz.ntmps203 Tryz.results203 rfl fun h0 G0 O0 => ?_
 repeat' (first|refine Sp.h ?_|refine Lk.r rfl ?_|refine Rf.mk rfl ?_|(refine All.mk ?_;intro _)|(apply TkB.r;(focus repeat constructor))|refine Ch.l ⟨rfl, rfl⟩ ?_|(apply Nm.r;focus repeat constructor)|(apply Cl.p (h);(focus repeat' (first|exact Lend.nil|apply Lend.keep|fail))))
 exact Fin.p rfl (vb (by simp))
theorem live0_p (L : List WrS) (w : WrS) : CallP Tryz.prog 206 [evW' w, .ad [wrs L] 0] (bl (!decide (SeenW w.1 L 0))) := by
 have h := seen_p w L 0
 refine CallA.of pg ord206 Tryz.func206 rfl Tryz.ntmps206 Tryz.results206 rfl fun h0 G0 O0 => ?_
 repeat' (first|refine Sp.h ?_|refine Lk.r rfl ?_|refine Rf.mk rfl ?_|(refine All.mk ?_;intro _)|(apply TkB.r;(focus repeat constructor))|refine Ch.l ⟨rfl, rfl⟩ ?_|(apply Nm.r;focus repeat constructor)|(apply Cl.p (h);(focus repeat' (first|exact Lend.nil|apply Lend.keep|fail))))
 exact Fin.p rfl (vb (by simp))
abbrev ofA : AV := .ad [.fn 196 []] 0
theorem vals2_p (L : List WrS) (hl : L.length ≤ 1000000) : CallP Tryz.prog 200 [wrs L, ofA] (ints [if decide (Live0 L) = true then 1 else 0]) := by
 have h1 := of_p L 0 hl
 have h2 : CallP Tryz.prog 202 [wrs (ofW L 0), .fn 203 [.ad [wrs L] 0]] (bl (decide (Live0 L))) := by
  have h := containsW_p (live1_p L) rfl (ofW L 0)
  rwa [show decide (idxN (fun w => !decide (SeenW w.1 L 1)) (ofW L 0) < (ofW L 0).length) = decide (Live0 L) from decide_eq_decide.2 (by rw [idxN_lt];simp [Live0, ofW, and_assoc])] at h
 have h3 := ebit_p (decide (Live0 L))
 refine CallA.of pg ord200 Tryz.func200 rfl Tryz.ntmps200 Tryz.results200 rfl fun h0 G0 O0 => ?_
 (repeat' (first|(show CA _ _ (Code.region 1 _ _) _ _;apply Stopped.out)|refine Sp.h ?_|refine Lk.r rfl ?_|refine Rf.mk rfl ?_|(refine All.mk ?_;intro _)|fail));any_goals apply Stopped.mk
 refine CA.freezeB 2 rfl (by repeat constructor) ?_
 repeat' (first|refine Sp.h ?_|refine Lk.r rfl ?_|refine Rf.mk rfl ?_|(apply Nm.r;focus repeat constructor)|(apply Cl.p (h1);(focus ((repeat' (first|exact Lend.nil|apply Lend.keep|fail));done)))|(apply Cl.p (h2);(focus ((repeat' (first|exact Lend.nil|apply Lend.keep|fail));done)))|(apply Cl.p (h3);(focus ((repeat' (first|exact Lend.nil|apply Lend.keep|fail));done))))
 exact Fin.p rfl rfl
theorem vals3_p (L : List WrS) (hl : L.length ≤ 1000000) : CallP Tryz.prog 205 [wrs L, ofA] (ints [if decide (In1 L) = true then 1 else 0]) := by
 have k0 := of_p L 0 hl
 have k1 := of_p L 1 hl
 have k2 := containsW_p (live0_p L) rfl (ofW L 1)
 have e0 : (0 < (ofW L 0).length) ↔ ∃ w ∈ L, w.2.1 = 0 := by rw [List.length_pos_iff_exists_mem];simp [ofW]
 have e1 : idxN (fun w => !decide (SeenW w.1 L 0)) (ofW L 1) < (ofW L 1).length ↔ ∃ w ∈ L, w.2.1 = 1 ∧ ¬ SeenW w.1 L 0 := by rw [idxN_lt];simp [ofW, and_assoc]
 have k3 := ebit_p (decide (In1 L))
 by_cases hp : 0 < (ofW L 0).length
 ·rw [show decide (In1 L) = decide (¬ idxN (fun w => !decide (SeenW w.1 L 0)) (ofW L 1) < (ofW L 1).length) by
   exact decide_eq_decide.2 (by rw [e1];exact ⟨fun h => h.2, fun h => ⟨e0.1 hp, h⟩⟩)] at k3 ⊢
  refine CallA.of pg ord205 Tryz.func205 rfl Tryz.ntmps205 Tryz.results205 rfl fun h0 G0 O0 => ?_
  (repeat' (first|(show CA _ _ (Code.region 1 _ _) _ _;apply Stopped.out)|refine Sp.h ?_|refine Lk.r rfl ?_|refine Rf.mk rfl ?_|(refine All.mk ?_;intro _)|fail));any_goals apply Stopped.mk
  refine CA.freezeB 2 rfl (by repeat constructor) ?_
  repeat' (first|refine Sp.h ?_|refine Lk.r rfl ?_|refine Rf.mk rfl ?_|(apply Bd.t;(focus first|assumption|omega|rfl))|(refine Im.mk ?_;intro _)|(apply Nm.r;focus repeat constructor)|(apply Cl.p (k0);(focus ((repeat' (first|exact Lend.nil|apply Lend.keep|fail));done)))|(apply Cl.p (k1);(focus ((repeat' (first|exact Lend.nil|apply Lend.keep|fail));done)))|(apply Cl.p (k2);(focus ((repeat' (first|exact Lend.nil|apply Lend.keep|fail));done)))|(apply Cl.p (k3);(focus ((repeat' (first|exact Lend.nil|apply Lend.keep|fail));done))))
  all_goals exact Fin.p rfl rfl
 ·rw [show decide (In1 L) = false from decide_eq_false fun h => hp (e0.2 h.1)] at k3 ⊢
  refine CallA.of pg ord205 Tryz.func205 rfl Tryz.ntmps205 Tryz.results205 rfl fun h0 G0 O0 => ?_
  (repeat' (first|(show CA _ _ (Code.region 1 _ _) _ _;apply Stopped.out)|refine Sp.h ?_|refine Lk.r rfl ?_|refine Rf.mk rfl ?_|(refine All.mk ?_;intro _)|fail));any_goals apply Stopped.mk
  refine CA.freezeB 2 rfl (by repeat constructor) ?_
  repeat' (first|refine Sp.h ?_|refine Lk.r rfl ?_|refine Rf.mk rfl ?_|(apply Bd.f;(focus first|assumption|omega|exact Bool.false_ne_true))|(refine Im.mk ?_;intro _)|(apply Nm.r;focus repeat constructor)|(apply Cl.p (k0);(focus ((repeat' (first|exact Lend.nil|apply Lend.keep|fail));done)))|(apply Cl.p (k1);(focus ((repeat' (first|exact Lend.nil|apply Lend.keep|fail));done)))|(apply Cl.p (k2);(focus ((repeat' (first|exact Lend.nil|apply Lend.keep|fail));done)))|(apply Cl.p (k3);(focus ((repeat' (first|exact Lend.nil|apply Lend.keep|fail));done))))
  all_goals exact Fin.p rfl rfl
def val4F (x : Int) (L : List WrS) : Int := match ofW L 2 with
 | [] => x
 | a :: l => (maxW a l).2.2.2
abbrev OneO (y : Int) : AV → List Res → Prop := fun r own => ∃ v, r = .ow v ∧ own = [arrR v 3 1 [[it y]] id]
theorem oneO_p {f : FuncId} {xs : List AV} {y : Int} (h : CallA Tryz.prog f xs [] (OneO y)) : CallP Tryz.prog f xs (ints [y]) :=
 CallA.fx h fun _ _ ⟨_, e1, e2⟩ => by
  subst e1;subst e2
  exact .sl .here (Nat.le_of_ble_eq_true rfl) (.agg (.le (ALe.refl _) .nil) .nil) .nil
theorem vals4_p (L : List WrS) (x : Int) (hl : L.length ≤ 1000000) : CallP Tryz.prog 207 [wrs L, ofA, .ad [it x] 0] (ints [val4F x L]) := by
 have k0 := of_p L 2 hl
 refine oneO_p ?_
 cases ho : ofW L 2 with
 | nil =>
  rw [ho] at k0
  have hv : val4F x L = x := by simp only [val4F, ho]
  rw [hv]
  have hz : (([] : List WrS).length : Int) = 0 := rfl
  refine CallA.of pg ord207 Tryz.func207 rfl Tryz.ntmps207 Tryz.results207 rfl fun h0 G0 O0 => ?_
  repeat' (first|refine Sp.h ?_|refine Lk.r rfl ?_|refine Rf.mk rfl ?_|(apply Bd.t;(focus first|assumption|omega|rfl))|(refine Im.mk ?_;intro _)|(refine All.mk ?_;intro _)|(apply Fk.r;(focus (repeat (first|exact FillA.nil|(apply FillA.agg;(focus rfl);(focus rfl);(focus (repeat (first|exact SetAs.z|(apply SetAs.c;(focus (repeat first|assumption|constructor)))))))|(apply FillA.one;(focus rfl);(focus infer_instance);(focus (repeat first|assumption|constructor)))))))|(apply Nm.r;focus repeat constructor)|refine Rf.mk ⟨rfl, rfl, rfl⟩ ?_|(apply Cl.p (k0);(focus ((repeat' (first|exact Lend.nil|apply Lend.keep|fail));done))))
  exact ⟨_, _, .one (.same (.nil (by (repeat first|exact .nil|refine .cons (by repeat constructor) ?_)))), _, rfl, rfl⟩
 | cons a l =>
  rw [ho] at k0
  have hv : val4F x L = (maxW a l).2.2.2 := by simp only [val4F, ho]
  have k1 : CallP Tryz.prog 208 [wrs (a :: l), .fn 209 []] (evW' (maxW a l)) := max_p (a :: l) a rfl
  rw [hv]
  have hz : ¬ ((a :: l).length : Int) = 0 := by simp;omega
  refine CallA.of pg ord207 Tryz.func207 rfl Tryz.ntmps207 Tryz.results207 rfl fun h0 G0 O0 => ?_
  repeat' (first|refine Sp.h ?_|refine Lk.r rfl ?_|refine Rf.mk rfl ?_|(apply Bd.f;(focus first|assumption|omega|exact Bool.false_ne_true))|(refine Im.mk ?_;intro _)|(refine All.mk ?_;intro _)|(apply TkB.r;(focus repeat constructor))|(apply SetAsk.r;(focus (repeat (first|exact SetAs.z|(apply SetAs.c;(focus (repeat first|assumption|constructor)))))))|(apply Fk.r;(focus (repeat (first|exact FillA.nil|(apply FillA.agg;(focus rfl);(focus rfl);(focus (repeat (first|exact SetAs.z|(apply SetAs.c;(focus (repeat first|assumption|constructor)))))))|(apply FillA.one;(focus rfl);(focus infer_instance);(focus (repeat first|assumption|constructor)))))))|(apply Nm.r;focus repeat constructor)|refine Rf.mk ⟨rfl, rfl, rfl⟩ ?_|(apply Cl.p (k0);(focus ((repeat' (first|exact Lend.nil|apply Lend.keep|fail));done)))|(apply Cl.p (k1);(focus ((repeat' (first|exact Lend.nil|apply Lend.keep|fail));done))))
  exact ⟨_, _, .one (.same (.nil (by (repeat first|exact .nil|refine .cons (by repeat constructor) ?_)))), _, rfl, rfl⟩
set_option maxHeartbeats 2000000 in
theorem vals5_p (L : List WrS) (x : Int) (hl : L.length ≤ 100000) : CallP Tryz.prog 210 [wrs L, ofA, .ad [it x] 0] (ints (if vals5 L = [] then [x] else srtD (vals5 L))) := by
 have k0 := of_p L 2 (by omega)
 have hof : (ofW L 2).length ≤ L.length := List.length_filter_le _ _
 have e5 : vals5 L = ((ofW L 2).filter fun w => !decide (SeenW w.1 L 2)).map (·.2.2.2) := by
  unfold vals5 ofW
  rw [List.filter_filter]
  congr 2
  funext w
  simp [Bool.and_comm]
 have hle : (vals5 L).length ≤ L.length := by rw [vals5, List.length_map];exact List.length_filter_le _ _
 have hle2 := srtD_len (vals5 L)
 have hlr : (if vals5 L = [] then [x] else srtD (vals5 L)).length ≤ 9223372036854775807 := by
  split
  ·simp
  ·omega
 refine CallA.fz (T := 3) hlr ?_
 refine CallA.of pg ord210 Tryz.func210 rfl Tryz.ntmps210 Tryz.results210 rfl fun h0 G0 O0 => ?_
 repeat' (first|refine Sp.h ?_|refine Lk.r rfl ?_|refine Rf.mk rfl ?_|(refine Im.mk ?_;intro _)|(apply Cl.p (k0);(focus ((repeat' (first|exact Lend.nil|apply Lend.keep|fail));done))))
 refine CA.nilOwn 5 3 1 i1 rfl fun v0 => ?_
 refine CA.loop (fun x' : Nat × Value => ⟨[(0, wrs L), (2, .ad [it x] 0), (5, .ow x'.2), (10, wrs (ofW L 2)), (11, it ((ofW L 2).length : Nat)), (12, it (x'.1 : Nat))], [arrR x'.2 3 1 ((((ofW L 2).take x'.1).filter fun w => !decide (SeenW w.1 L 2)).map (·.2.2.2)) i1]⟩)
  (fun x' => x'.1 ≤ (ofW L 2).length) (fun x' => (ofW L 2).length - x'.1) (0, v0) ⟨by repeat first|trivial|refine ⟨rfl,?_⟩,by repeat first|exact .nil|refine .cons (by repeat constructor) ?_⟩ (Nat.zero_le _) ?_
 rintro ⟨i, v⟩ hi
 simp only at hi
 simp only
 by_cases hin : i < (ofW L 2).length
 ·obtain ⟨w, hw⟩ := get_of hin
  have k1 := seen_p w L 2
  have hs := filter_succ (p := fun w : WrS => !decide (SeenW w.1 L 2)) hw
  have hln : (((ofW L 2).take i).filter fun w => !decide (SeenW w.1 L 2)).length ≤ 100000 := Nat.le_trans (List.length_filter_le _ _) (by simp;omega)
  by_cases hsn : SeenW w.1 L 2
  ·simp only [hsn, decide_true, Bool.not_true, Bool.false_eq_true, if_false, List.append_nil] at hs
   repeat' (first|refine Sp.h ?_|refine Lk.r rfl ?_|refine Rf.mk rfl ?_|(apply Bd.t;(focus first|assumption|omega|rfl))|(refine All.mk ?_;intro _)|(apply TkB.r;(focus repeat constructor))|(apply Ix.q;(focus exact rfl);(focus assumption))|refine Ch.l ⟨rfl, rfl⟩ ?_|(apply SetAsk.r;(focus (repeat (first|exact SetAs.z|(apply SetAs.c;(focus (repeat first|assumption|constructor)))))))|(apply Nm.r;focus repeat constructor)|(apply Ov.n;(focus first|omega|(simp <;> omega)))|(apply Cl.p (k1);(focus ((repeat' (first|exact Lend.nil|apply Lend.keep|fail));done))))
   rw [← hs]
   exact PA.lp (i + 1, v) ⟨by repeat first|trivial|refine ⟨rfl,?_⟩,by repeat first|exact .nil|refine .cons (by repeat constructor) ?_⟩ ⟨hin, by simp only;omega⟩
  ·rw [if_pos (by simp [hsn])] at hs
   obtain ⟨e, u1, u2, u3⟩ := w
   have hsu : ((((ofW L 2).take (i + 1)).filter fun w => !decide (SeenW w.1 L 2)).map (·.2.2.2)) = ((((ofW L 2).take i).filter fun w => !decide (SeenW w.1 L 2)).map (·.2.2.2)) ++ [u3] := by rw [hs, List.map_append];rfl
   repeat' (first|refine Sp.h ?_|refine Lk.r rfl ?_|refine Rf.mk rfl ?_|(apply Bd.t;(focus first|assumption|omega|rfl))|(apply Bd.f;(focus first|assumption|omega|exact Bool.false_ne_true))|(apply Om.mk;(focus first|omega|(simp <;> omega)))|(refine All.mk ?_;intro _)|(apply TkA.r;(focus repeat constructor))|(apply TkB.r;(focus repeat constructor))|(apply Ix.q;(focus exact rfl);(focus assumption))|refine Ce.r ?_|refine Ch.l ⟨rfl, rfl⟩ ?_|(apply SetAsk.r;(focus (repeat (first|exact SetAs.z|(apply SetAs.c;(focus (repeat first|assumption|constructor)))))))|(apply Fk.r;(focus (repeat (first|exact FillA.nil|(apply FillA.agg;(focus rfl);(focus rfl);(focus (repeat (first|exact SetAs.z|(apply SetAs.c;(focus (repeat first|assumption|constructor)))))))|(apply FillA.one;(focus rfl);(focus infer_instance);(focus (repeat first|assumption|constructor)))))))|(apply Nm.r;focus repeat constructor)|refine Rf.mk ⟨rfl, rfl⟩ ?_|refine Rf.mk ⟨rfl, rfl, rfl⟩ ?_|(apply Mp.lit;(focus repeat (first|exact MpL.nil|(apply MpL.cons;(focus rfl))|(apply MpL.inv;(focus repeat constructor);(focus infer_instance)))))|(apply Ov.n;(focus first|omega|(simp <;> omega)))|(apply Cl.p (k1);(focus ((repeat' (first|exact Lend.nil|apply Lend.keep|fail));done))))
   rw [← hsu]
   exact PA.lp (i + 1, _) ⟨by repeat first|trivial|refine ⟨rfl,?_⟩,by repeat first|exact .nil|refine .cons (by repeat constructor) ?_⟩ ⟨hin, by simp only;omega⟩
 ·have hie : i = (ofW L 2).length := by omega
  subst hie
  rw [List.take_length, ← e5]
  have hso : ∀ w, _ := fun w => sortInt_a w 3 (vals5 L) (by omega)
  have hco : ∀ w, _ := fun w => compactI_a w (srtI (vals5 L)) (by rw [srtI_len];omega)
  by_cases hz : vals5 L = []
  ·rw [if_pos hz]
   have hz2 : ((vals5 L).length : Int) = 0 := by rw [hz];rfl
   (repeat' (first|(show CA _ _ Code.ret _ _;apply Stopped.out)|refine Sp.h ?_|refine Lk.r rfl ?_|refine Rf.mk rfl ?_|(apply Bd.t;(focus first|assumption|omega|rfl))|(apply Bd.f;(focus first|assumption|omega|exact Bool.false_ne_true))|(refine All.mk ?_;intro _)|(apply TkA.r;(focus repeat constructor))|(apply Fk.r;(focus (repeat (first|exact FillA.nil|(apply FillA.agg;(focus rfl);(focus rfl);(focus (repeat (first|exact SetAs.z|(apply SetAs.c;(focus (repeat first|assumption|constructor)))))))|(apply FillA.one;(focus rfl);(focus infer_instance);(focus (repeat first|assumption|constructor)))))))|refine Rf.mk ⟨rfl, rfl, rfl⟩ ?_|fail));any_goals apply Stopped.mk
   apply CA.retype (m := [x]) (g := i1)
   focus (repeat constructor)
   focus rfl
   repeat' (first|refine Sp.h ?_|refine Lk.r rfl ?_|(apply Nm.r;focus repeat constructor)|fail)
   exact ⟨_, _, .one (.same (.nil (by (repeat first|exact .nil|refine .cons (by repeat constructor) ?_)))), _, rfl, rfl⟩
  ·rw [if_neg hz]
   have hz2 : ¬ ((vals5 L).length : Int) = 0 := by
    have : (vals5 L).length ≠ 0 := fun h => hz (List.eq_nil_of_length_eq_zero h)
    omega
   repeat' (first|refine Sp.h ?_|refine Lk.r rfl ?_|refine Rf.mk rfl ?_|(apply Bd.f;(focus first|assumption|omega|exact Bool.false_ne_true))|(apply TkA.r;(focus repeat constructor))|fail)
   (apply Cl.use (hso _);(focus repeat' (first|exact Lend.nil|apply Lend.keep|fail));(focus (repeat (first|exact Takes.nil|(apply Takes.cons;(focus repeat constructor)))));(focus rfl))
   rintro _ _ ⟨rfl, rfl⟩
   repeat' (first|refine Sp.h ?_|refine Lk.r rfl ?_|refine Rf.mk rfl ?_|fail)
   (apply Cl.use (hco _);(focus repeat' (first|exact Lend.nil|apply Lend.keep|fail));(focus (repeat (first|exact Takes.nil|(apply Takes.cons;(focus repeat constructor)))));(focus rfl))
   rintro _ _ ⟨w2, rfl, rfl⟩
   repeat' (first|refine Sp.h ?_|refine Lk.r rfl ?_|(apply Nm.r;focus repeat constructor)|fail)
   exact ⟨_, _, .one (.same (.nil (by (repeat first|exact .nil|refine .cons (by repeat constructor) ?_)))), _, rfl, rfl⟩
end Go.Proofs.YtmllihbhphnolaaGreat
namespace Go.Proofs.YtmllihbhphnolaaGreat
open Go Go.CF
set_option maxRecDepth 20000
/-! ### Searches in numbers -/
theorem indexI_p {g : FuncId} {p : Int → Bool} (hg : ∀ x, CallP Tryz.prog g [it x] (bl (p x))) (he : en g = true) (l : List Int) :
  CallP Tryz.prog 268 [ints l, .fn g []] (it (idxI p l)) := by
 refine CallA.of pg ord268 Tryz.func268 rfl Tryz.ntmps268 Tryz.results268 rfl fun h0 G0 O0 => ?_
 repeat' (first|refine Sp.h ?_|refine Lk.r rfl ?_|refine Rf.mk rfl ?_|(refine Im.mk ?_;intro _)|fail)
 refine CA.loop (fun i : Nat => ⟨[(0, ints l), (1, .fn g []), (7, it (l.length : Nat)), (8, it i)], []⟩)
  (fun i => i ≤ l.length ∧ ∀ j y, j < i → l[j]? = some y → p y = false) (fun i => l.length - i) 0 ⟨by repeat first|trivial|refine ⟨rfl,?_⟩,by repeat first|exact .nil|refine .cons (by repeat constructor) ?_⟩ ⟨Nat.zero_le _, fun j y h => by omega⟩ ?_
 rintro i ⟨hi, hj⟩
 by_cases hin : i < l.length
 ·obtain ⟨e, hx⟩ := get_of hin
  repeat' (first|refine Sp.h ?_|refine Lk.r rfl ?_|refine Rf.mk rfl ?_|(apply Bd.t;(focus first|assumption|omega|rfl))|(refine Bd.mk ?_ ?_ <;> intro _)|(apply Ix.q;(focus exact rfl);(focus assumption))|(apply Nm.r;focus repeat constructor)|(apply Rf.mk;(focus assumption))|(apply Ov.n;(focus first|omega|(simp <;> omega)))|(apply Cl.p (hg e);(focus repeat' (first|exact Lend.nil|apply Lend.keep|fail))))
  ·rename_i hp
   exact Fin.p rfl (by rw [idxI, idxN_of hx hp hj, if_pos hin])
  ·rename_i hp
   refine PA.lp (i + 1) ⟨by repeat first|trivial|refine ⟨rfl,?_⟩,by repeat first|exact .nil|refine .cons (by repeat constructor) ?_⟩ ⟨⟨hin, fun j y h1 h2 => ?_⟩, by omega⟩
   by_cases hij : j = i
   ·subst hij;rw [hx] at h2;cases h2;simpa using hp
   ·exact hj j y (by omega) h2
 ·repeat' (first|refine Sp.h ?_|refine Lk.r rfl ?_|refine Rf.mk rfl ?_|(apply Bd.f;(focus first|assumption|omega|exact Bool.false_ne_true))|(apply Nm.r;focus repeat constructor)|fail)
  exact Fin.p rfl (by rw [idxI, idxN_none (fun x hx => by obtain ⟨j, hx⟩ := List.getElem?_of_mem hx;exact hj j x (by have := (List.getElem?_eq_some_iff.1 hx).1;omega) hx), if_neg (by omega)])
theorem containsI_p {g : FuncId} {p : Int → Bool} (hg : ∀ x, CallP Tryz.prog g [it x] (bl (p x))) (he : en g = true) (l : List Int) :
  CallP Tryz.prog 225 [ints l, .fn g []] (bl (decide (idxN p l < l.length))) := by
 refine CallA.of pg ord225 Tryz.func225 rfl Tryz.ntmps225 Tryz.results225 rfl fun h0 G0 O0 => ?_
 repeat' (first|refine Sp.h ?_|refine Lk.r rfl ?_|refine Rf.mk rfl ?_|(apply Nm.r;focus repeat constructor)|(apply Cl.p (indexI_p hg he l);(focus repeat' (first|exact Lend.nil|apply Lend.keep|fail))))
 refine Fin.p rfl (vb (decide_eq_decide.2 ?_))
 unfold idxI
 split <;> omega
theorem inside1_p (x : Int) : CallP Tryz.prog 226 [it x] (bl (decide (¬ (-1000000000 ≤ x ∧ x ≤ 1000000000)))) := by
 refine CallA.of pg ord226 Tryz.func226 rfl Tryz.ntmps226 Tryz.results226 rfl fun h0 G0 O0 => ?_
 repeat' (first|refine Sp.h ?_|refine Lk.r rfl ?_|refine Rf.mk rfl ?_|(apply Bd.t;(focus first|assumption|omega|rfl))|(apply Bd.f;(focus first|assumption|omega|exact Bool.false_ne_true))|(refine Bd.mk ?_ ?_ <;> intro _)|(apply Nm.r;focus repeat constructor)|fail)
 all_goals exact Fin.p rfl (vb (by first|exact (decide_eq_true (by omega)).symm|exact (decide_eq_false (by omega)).symm|exact decide_eq_decide.2 (by omega)))
theorem inside35_p (l : List Int) : CallP Tryz.prog 149 [ints l] (bl (decide (insS l))) := by
 refine CallA.of pg ord149 Tryz.func149 rfl Tryz.ntmps149 Tryz.results149 rfl fun h0 G0 O0 => ?_
 repeat' (first|refine Sp.h ?_|refine Lk.r rfl ?_|refine Rf.mk rfl ?_|(apply Nm.r;focus repeat constructor)|(apply Cl.p (containsI_p inside1_p rfl l);(focus repeat' (first|exact Lend.nil|apply Lend.keep|fail))))
 refine Fin.p rfl (vb (decide_eq_decide.2 ?_))
 rw [idxN_lt]
 constructor
 ·intro h x hx
  exact Classical.byContradiction fun h9 => h ⟨x, hx, decide_eq_true h9⟩
 ·rintro h ⟨x, hx, h9⟩
  have := h x hx
  have := of_decide_eq_true h9
  omega
/-! ### Clones -/
theorem cloneM_a (l : List MgS) (hl : l.length ≤ 1000000) (hm : ∀ g ∈ l, g.marks.length ≤ 1000000) :
  CallA Tryz.prog 133 [mgs l] [] fun r own => ∃ v L, r = .ow v ∧ L.map MgE.g = l ∧ own = outR v L := by
 have hc := cloneG_o l (by omega)
 refine CallA.of pg ord133 Tryz.func133 rfl Tryz.ntmps133 Tryz.results133 rfl fun h0 G0 O0 => ?_
 repeat' (first|refine Sp.h ?_|refine Lk.r rfl ?_|refine Rf.mk rfl ?_|fail)
 (refine Cl.use (hc) (by repeat' (first|exact Lend.nil|apply Lend.keep|fail)) .nil rfl ?_;rintro _ _ ⟨_, rfl, rfl⟩)
 repeat' (first|refine Sp.h ?_|refine Lk.r rfl ?_|refine Rf.mk rfl ?_|(apply TkA.r;(focus repeat constructor))|fail)
 rename_i v
 apply CA.retype (m := l.map ogG) (g := ogC)
 focus (repeat constructor)
 focus exact ogG_map l
 refine CA.bunNil mgeR ?_
 refine CA.loop (fun x : Nat × List MgE => ⟨[(3, .ow v), (8, it (l.length : Nat)), (9, it x.1)], [arrR v 123 3 (x.2.map ogE ++ (l.drop x.1).map ogG) ogC, bunR (x.2.map mgeR)]⟩)
  (fun x => x.1 ≤ l.length ∧ x.2.map MgE.g = l.take x.1) (fun x => l.length - x.1) (0, []) ⟨by repeat first|trivial|refine ⟨rfl,?_⟩,by repeat first|exact .nil|refine .cons (by repeat constructor) ?_⟩ ⟨Nat.zero_le _, by simp⟩ ?_
 rintro ⟨i, D⟩ ⟨hi, hD⟩
 simp only at hi hD
 simp only
 by_cases hin : i < l.length
 ·obtain ⟨g, hg⟩ := get_of hin
  have hgm := hm g (List.mem_of_getElem? hg)
  have hDl : D.length = i := by have := congrArg List.length hD;simp at this;omega
  have hdr : (l.drop i).map ogG = ogG g :: (l.drop (i + 1)).map ogG := by
   have h9 := List.drop_eq_getElem_cons hin
   rw [(List.getElem?_eq_some_iff.1 hg).2] at h9
   rw [h9, List.map_cons]
  have hrow : (D.map ogE ++ (l.drop i).map ogG)[i]? = some (g.put, g.drop, mks g.marks) := by
   rw [hdr, List.getElem?_append_right (by simp;omega)];simp [hDl, ogG]
  have hcl := cloneK_o g.marks (by omega)
  repeat' (first|refine Sp.h ?_|refine Lk.r rfl ?_|refine Rf.mk rfl ?_|(apply Bd.t;(focus first|assumption|omega|rfl))|(apply TkA.r;(focus repeat constructor))|(apply Ix.q;(focus exact rfl);(focus assumption))|(apply At.r;(focus assumption))|fail)
  (refine Cl.use (hcl) (by repeat' (first|exact Lend.nil|apply Lend.keep|fail)) .nil rfl ?_;rintro _ _ ⟨_, rfl, rfl⟩)
  (repeat' (first|(show CA _ _ (Code.region 6 _ _) _ _;apply Stopped.out)|refine Sp.h ?_|refine Lk.r rfl ?_|refine Rf.mk rfl ?_|(apply TkA.r;(focus repeat constructor))|(apply Ix.q;(focus exact rfl);(focus assumption))|(apply At.r;(focus assumption))|(apply SetAk.r;(focus (repeat first|assumption|constructor)))|(apply Up.inv;(focus repeat constructor);(focus infer_instance))|fail));any_goals apply Stopped.mk
  rename_i w2
  have hset : (D.map ogE ++ (l.drop i).map ogG).set i (g.put, g.drop, .ow w2) = (D ++ [(MgE.mk g.put g.drop w2 g.marks)]).map ogE ++ (l.drop (i + 1)).map ogG := by
   rw [hdr, List.set_append, if_neg (by simp;omega)]
   simp [hDl, ogE]
  rw [hset]
  apply CA.bunPush (g := mgeR) (x := (MgE.mk g.put g.drop w2 g.marks))
  focus (repeat constructor)
  focus (repeat constructor)
  repeat' (first|refine Sp.h ?_|refine Lk.r rfl ?_|refine Rf.mk rfl ?_|(apply Ov.n;(focus first|omega|(simp <;> omega)))|fail)
  exact PA.lp (i + 1, D ++ [(MgE.mk g.put g.drop w2 g.marks)]) ⟨by repeat first|trivial|refine ⟨rfl,?_⟩,by repeat first|exact .nil|refine .cons (by repeat constructor) ?_⟩ ⟨⟨hin, by simp only;rw [List.map_append, hD, List.take_add_one, hg];rfl⟩, by simp only;omega⟩
 ·have hie : i = l.length := by omega
  subst hie
  rw [List.take_length] at hD
  rw [List.drop_length, List.map_nil, List.append_nil]
  (repeat' (first|(show CA _ _ (Code.region 7 _ _) _ _;apply Stopped.out)|refine Sp.h ?_|refine Lk.r rfl ?_|refine Rf.mk rfl ?_|(apply Bd.f;(focus first|assumption|omega|exact Bool.false_ne_true))|fail));any_goals apply Stopped.mk
  apply CA.retype (m := D) (g := mgeC)
  focus (repeat constructor)
  focus exact ogE_map D
  repeat' (first|refine Sp.h ?_|refine Lk.r rfl ?_|refine Rf.mk rfl ?_|(apply Nm.r;focus repeat constructor)|fail)
  exact ⟨_, _, .one (.same (.nil (by (repeat first|exact .nil|refine .cons (by repeat constructor) ?_)))), _, D, rfl, hD, rfl⟩
theorem cloneM_p (l : List MgS) (hl : l.length ≤ 1000000) (hm : ∀ g ∈ l, g.marks.length ≤ 1000000) : CallP Tryz.prog 133 [mgs l] (mgs l) := by
 refine CallA.fx (cloneM_a l hl hm) ?_
 rintro r o ⟨v, L, rfl, rfl, rfl⟩
 exact out_fx (by simpa using hl) (fun x hx => hm x.g (List.mem_map_of_mem hx)) .nil
theorem cloneV_o (l : List EvS) (hl : l.length ≤ 1000000000) : CallO Tryz.prog 126 [evs l] 37 13 l evC := by
 refine CallA.of pg ord126 Tryz.func126 rfl Tryz.ntmps126 Tryz.results126 rfl fun h0 G0 O0 => ?_
 repeat' (first|refine Sp.h ?_|refine Lk.r rfl ?_|refine Rf.mk rfl ?_|(refine Bd.mk ?_ ?_ <;> intro _)|(apply Om.mk;(focus first|omega|(simp <;> omega)))|(refine Im.mk ?_;intro _)|(refine All.mk ?_;intro _)|(apply TkA.r;(focus repeat constructor))|refine Ce.l rfl ?_|(apply Fk.r;(focus (repeat (first|exact FillA.nil|(apply FillA.agg;(focus rfl);(focus rfl);(focus (repeat (first|exact SetAs.z|(apply SetAs.c;(focus (repeat first|assumption|constructor)))))))|(apply FillA.one;(focus rfl);(focus infer_instance);(focus (repeat first|assumption|constructor)))))))|(apply Nm.r;focus repeat constructor)|refine Rf.mk ⟨rfl, rfl⟩ ?_|refine Rf.mk ⟨rfl, rfl, rfl⟩ ?_|refine Mp.same ?_|fail)
 ·rename_i b hb hbt
  have hl0 : l = [] := Decidable.byContradiction fun h => by rw [hb h] at hbt;cases hbt
  subst hl0
  exact ⟨_, _, .one (.nils (.nil (by (repeat first|exact .nil|refine .cons (by repeat constructor) ?_)))), _, rfl, rfl⟩
 ·repeat' (first|fail)
  exact ⟨_, _, .one (.same (.nil (by (repeat first|exact .nil|refine .cons (by repeat constructor) ?_)))), _, rfl, rfl⟩
structure EvE where
 e : EvS
 w : Value
def evQ (e : EvS) (p : AV) : List AV := [iv e.rep, iv e.num, iv e.time, p, iv e.kind, iv e.action, iv e.gk, iv e.gi, iv e.ge, iv e.ga, iv e.to, iv e.place, iv e.serial]
def eveC (x : EvE) : List AV := evQ x.e (.ow x.w)
abbrev eveR (x : EvE) : Res := arrR x.w 3 1 x.e.past intC
def oeC (x : EvS × AV) : List AV := evQ x.1 x.2
instance {e : EvS} {p : AV} : Inv oeC [iv e.rep, iv e.num, iv e.time, p, iv e.kind, iv e.action, iv e.gk, iv e.gi, iv e.ge, iv e.ga, iv e.to, iv e.place, iv e.serial] (e, p) := ⟨rfl⟩
def oeE (x : EvE) : EvS × AV := (x.e, .ow x.w)
def oeG (e : EvS) : EvS × AV := (e, ints e.past)
theorem oeE_map (l : List EvE) : l.map eveC = (l.map oeE).map oeC := by rw [List.map_map];rfl
theorem oeG_map (l : List EvS) : (l.map oeG).map oeC = l.map evC := by rw [List.map_map];rfl
abbrev outE (v : Value) (L : List EvE) : List Res := [arrR v 37 13 L eveC, bunR (L.map eveR)]
theorem outE_fx {v : Value} {L : List EvE} (hl : L.length ≤ 1000000) (hm : ∀ x ∈ L, x.e.past.length ≤ 1000000) {l l' : List AV} {o own : List Res} (ht : FX o l l' own) : FX (outE v L ++ o) (.ow v :: l) (evs (L.map EvE.e) :: l') own := by
 refine .sl .here (by omega) (.unb .here ?_) ht
 refine FX.rows (o := o) (r := eveR) (f := eveC) (g := evC) (φ := EvE.e) L fun x hx o' => ?_
 have := hm x hx
 exact .le (ALe.refl _) (.le (ALe.refl _) (.le (ALe.refl _) (.sl .here (by omega) (FX.refl _) (FX.refl _))))
set_option maxHeartbeats 2000000 in
theorem cloneEs_a (l : List EvS) (hl : l.length ≤ 1000000) (hm : ∀ e ∈ l, e.past.length ≤ 1000000) :
  CallA Tryz.prog 95 [evs l] [] fun r own => ∃ v L, r = .ow v ∧ L.map EvE.e = l ∧ own = outE v L := by
 have hc := cloneV_o l (by omega)
 refine CallA.of pg ord95 Tryz.func95 rfl Tryz.ntmps95 Tryz.results95 rfl fun h0 G0 O0 => ?_
 repeat' (first|refine Sp.h ?_|refine Lk.r rfl ?_|refine Rf.mk rfl ?_|fail)
 (refine Cl.use (hc) (by repeat' (first|exact Lend.nil|apply Lend.keep|fail)) .nil rfl ?_;rintro _ _ ⟨_, rfl, rfl⟩)
 repeat' (first|refine Sp.h ?_|refine Lk.r rfl ?_|refine Rf.mk rfl ?_|(apply TkA.r;(focus repeat constructor))|fail)
 rename_i v
 apply CA.retype (m := l.map oeG) (g := oeC)
 focus (repeat constructor)
 focus exact oeG_map l
 refine CA.bunNil eveR ?_
 refine CA.loop (fun x : Nat × List EvE => ⟨[(3, .ow v), (8, it (l.length : Nat)), (9, it x.1)], [arrR v 37 13 (x.2.map oeE ++ (l.drop x.1).map oeG) oeC, bunR (x.2.map eveR)]⟩)
  (fun x => x.1 ≤ l.length ∧ x.2.map EvE.e = l.take x.1) (fun x => l.length - x.1) (0, []) ⟨by repeat first|trivial|refine ⟨rfl,?_⟩,by repeat first|exact .nil|refine .cons (by repeat constructor) ?_⟩ ⟨Nat.zero_le _, by simp⟩ ?_
 rintro ⟨i, D⟩ ⟨hi, hD⟩
 simp only at hi hD
 simp only
 by_cases hin : i < l.length
 ·obtain ⟨g, hg⟩ := get_of hin
  have hgm := hm g (List.mem_of_getElem? hg)
  have hDl : D.length = i := by have := congrArg List.length hD;simp at this;omega
  have hdr : (l.drop i).map oeG = oeG g :: (l.drop (i + 1)).map oeG := by
   have h9 := List.drop_eq_getElem_cons hin
   rw [(List.getElem?_eq_some_iff.1 hg).2] at h9
   rw [h9, List.map_cons]
  have hrow : (D.map oeE ++ (l.drop i).map oeG)[i]? = some (g, ints g.past) := by
   rw [hdr, List.getElem?_append_right (by simp;omega)];simp [hDl, oeG]
  have hcl := clone_o g.past (by omega)
  repeat' (first|refine Sp.h ?_|refine Lk.r rfl ?_|refine Rf.mk rfl ?_|(apply Bd.t;(focus first|assumption|omega|rfl))|(apply TkA.r;(focus repeat constructor))|(apply Ix.q;(focus exact rfl);(focus assumption))|(apply At.r;(focus assumption))|fail)
  (refine Cl.use (hcl) (by repeat' (first|exact Lend.nil|apply Lend.keep|fail)) .nil rfl ?_;rintro _ _ ⟨_, rfl, rfl⟩)
  (repeat' (first|(show CA _ _ (Code.region 6 _ _) _ _;apply Stopped.out)|refine Sp.h ?_|refine Lk.r rfl ?_|refine Rf.mk rfl ?_|(apply TkA.r;(focus repeat constructor))|(apply Ix.q;(focus exact rfl);(focus assumption))|(apply At.r;(focus assumption))|(apply SetAk.r;(focus (repeat first|assumption|constructor)))|(apply Up.inv;(focus repeat constructor);(focus infer_instance))|fail));any_goals apply Stopped.mk
  rename_i w2
  have hset : (D.map oeE ++ (l.drop i).map oeG).set i (g, .ow w2) = (D ++ [(EvE.mk g w2)]).map oeE ++ (l.drop (i + 1)).map oeG := by
   rw [hdr, List.set_append, if_neg (by simp;omega)]
   simp [hDl, oeE]
  rw [hset]
  apply CA.bunPush (g := eveR) (x := (EvE.mk g w2))
  focus (repeat constructor)
  focus (repeat constructor)
  repeat' (first|refine Sp.h ?_|refine Lk.r rfl ?_|refine Rf.mk rfl ?_|(apply Ov.n;(focus first|omega|(simp <;> omega)))|fail)
  exact PA.lp (i + 1, D ++ [(EvE.mk g w2)]) ⟨by repeat first|trivial|refine ⟨rfl,?_⟩,by repeat first|exact .nil|refine .cons (by repeat constructor) ?_⟩ ⟨⟨hin, by simp only;rw [List.map_append, hD, List.take_add_one, hg];rfl⟩, by simp only;omega⟩
 ·have hie : i = l.length := by omega
  subst hie
  rw [List.take_length] at hD
  rw [List.drop_length, List.map_nil, List.append_nil]
  (repeat' (first|(show CA _ _ (Code.region 7 _ _) _ _;apply Stopped.out)|refine Sp.h ?_|refine Lk.r rfl ?_|refine Rf.mk rfl ?_|(apply Bd.f;(focus first|assumption|omega|exact Bool.false_ne_true))|fail));any_goals apply Stopped.mk
  apply CA.retype (m := D) (g := eveC)
  focus (repeat constructor)
  focus exact oeE_map D
  repeat' (first|refine Sp.h ?_|refine Lk.r rfl ?_|refine Rf.mk rfl ?_|(apply Nm.r;focus repeat constructor)|fail)
  exact ⟨_, _, .one (.same (.nil (by (repeat first|exact .nil|refine .cons (by repeat constructor) ?_)))), _, D, rfl, hD, rfl⟩
theorem cloneEs_p (l : List EvS) (hl : l.length ≤ 1000000) (hm : ∀ e ∈ l, e.past.length ≤ 1000000) : CallP Tryz.prog 95 [evs l] (evs l) := by
 refine CallA.fx (cloneEs_a l hl hm) ?_
 rintro r o ⟨v, L, rfl, rfl, rfl⟩
 have := outE_fx (v := v) (L := L) (o := []) (by simpa using hl) (fun x hx => hm x.e (List.mem_map_of_mem hx)) .nil
 simpa using this
/-! ### The strict cells of a model -/
theorem cells35_p (m : ModS) (hm : LayOK m.sorts m.tables) : CallP Tryz.prog 148 [mdl m] (it (strF m : Nat)) := by
 have hml := hm.2.2.1
 refine CallA.of pg ord148 Tryz.func148 rfl Tryz.ntmps148 Tryz.results148 rfl fun h0 G0 O0 => ?_
 repeat' (first|refine Sp.h ?_|refine Lk.r rfl ?_|refine Rf.mk rfl ?_|(refine Im.mk ?_;intro _)|(refine All.mk ?_;intro _)|(apply TkB.r;(focus repeat constructor))|fail)
 rename_i b1 _
 refine CA.loop (fun i : Nat => ⟨[(1, pm b1), (3, it (strN m (m.tables.take i) : Nat)), (10, tbls m.tables), (11, it (m.tables.length : Nat)), (12, it i)], [mR b1 m]⟩) (fun i => i ≤ m.tables.length) (fun i => m.tables.length - i) 0 ⟨by repeat first|trivial|refine ⟨rfl,?_⟩,by repeat first|exact .nil|refine .cons (by repeat constructor) ?_⟩ (Nat.zero_le _) ?_
 intro i hi
 by_cases hin : i < m.tables.length
 ·obtain ⟨t, ht⟩ := get_of hin
  have hc := (hm.2.2.2 t (List.mem_of_getElem? ht)).1
  have h1 := sz_fit (m := m) hc
  have hn := strN_le hm i hi
  have hsu := strN_succ (m := m) ht
  by_cases hst : isStrict t.kind
  ·rw [if_pos hst] at hsu
   have h0 : t.kind = 0 ∨ t.kind = 1 := hst
   rcases h0 with h0|h0
   all_goals repeat' (first|refine Sp.h ?_|refine Lk.r rfl ?_|refine Rf.mk rfl ?_|(apply Bd.t;(focus first|assumption|omega|rfl))|(apply Bd.f;(focus first|assumption|omega|exact Bool.false_ne_true))|(refine Im.mk ?_;intro _)|(refine All.mk ?_;intro _)|(apply TkB.r;(focus repeat constructor))|(apply Ix.q;(focus exact rfl);(focus assumption))|refine Ch.l ⟨rfl, rfl⟩ ?_|(apply SetAsk.r;(focus (repeat (first|exact SetAs.z|(apply SetAs.c;(focus (repeat first|assumption|constructor)))))))|(apply Nm.r;focus repeat constructor)|fail)
   all_goals rename_i b5 _
   all_goals refine CA.loop (fun k : Nat => ⟨[(1, pm b1), (3, it (strN m (m.tables.take i) : Nat)), (5, pm b5), (6, it (prodF m.sorts (t.cols.take k))), (10, tbls m.tables), (11, it (m.tables.length : Nat)), (12, it i), (25, ints t.cols), (26, it (t.cols.length : Nat)), (27, it k)], [mR b1 m, blkR b5 157 (tblC t)]⟩) (fun k => k ≤ t.cols.length) (fun k => t.cols.length - k) 0 ⟨by repeat first|trivial|refine ⟨rfl,?_⟩,by repeat first|exact .nil|refine .cons (by repeat constructor) ?_⟩ (Nat.zero_le _) ?_
   all_goals intro k hk
   all_goals by_cases hkn : k < t.cols.length
   any_goals
    obtain ⟨x, hx⟩ := get_of hkn
    obtain ⟨j, rfl, y, hy, hy1, hy2⟩ := col_get hc hx
    have hb := prod_succ hx (show m.sorts[((j : Int)).toNat]? = some y by simpa using hy)
    have hp := prod_fit hc k
    have hp2 := prod_fit hc (k + 1)
    rw [hb] at hp2
    have hj := (List.getElem?_eq_some_iff.1 hy).1
    repeat' (first|refine Sp.h ?_|refine Lk.r rfl ?_|refine Rf.mk rfl ?_|(apply Bd.t;(focus first|assumption|omega|rfl))|(apply Om.mk;(focus first|omega|(simp <;> omega)))|(apply TkB.r;(focus repeat constructor))|(apply Ix.q;(focus exact rfl);(focus assumption))|(apply Ov.n;(focus first|omega|(simp <;> omega)))|fail)
    rw [← hb]
    exact PA.lp (k + 1) ⟨by repeat first|trivial|refine ⟨rfl,?_⟩,by repeat first|exact .nil|refine .cons (by repeat constructor) ?_⟩ ⟨hkn, by omega⟩
   all_goals
    have hke : k = t.cols.length := by omega
    subst hke
    simp only [List.take_length]
    rw [h1.1]
    repeat' (first|refine Sp.h ?_|refine Lk.r rfl ?_|refine Rf.mk rfl ?_|(apply Bd.f;(focus first|assumption|omega|exact Bool.false_ne_true))|(apply Ov.n;(focus first|omega|(simp <;> omega)))|fail)
    rw [show ((strN m (m.tables.take i) : Nat) : Int) + (szF m t : Nat) = (strN m (m.tables.take (i + 1)) : Nat) by omega]
    exact PA.lp (i + 1) ⟨by repeat first|trivial|refine ⟨rfl,?_⟩,by repeat first|exact .nil|refine .cons (by repeat constructor) ?_⟩ ⟨hin, by omega⟩
  ·rw [if_neg hst] at hsu
   unfold isStrict at hst
   repeat' (first|refine Sp.h ?_|refine Lk.r rfl ?_|refine Rf.mk rfl ?_|(apply Bd.t;(focus first|assumption|omega|rfl))|(apply Bd.f;(focus first|assumption|omega|exact Bool.false_ne_true))|(refine All.mk ?_;intro _)|(apply TkB.r;(focus repeat constructor))|(apply Ix.q;(focus exact rfl);(focus assumption))|refine Ch.l ⟨rfl, rfl⟩ ?_|(apply SetAsk.r;(focus (repeat (first|exact SetAs.z|(apply SetAs.c;(focus (repeat first|assumption|constructor)))))))|(apply Nm.r;focus repeat constructor)|(apply Ov.n;(focus first|omega|(simp <;> omega)))|fail)
   all_goals rw [show strN m (m.tables.take i) = strN m (m.tables.take (i + 1)) by omega]
   all_goals exact PA.lp (i + 1) ⟨by repeat first|trivial|refine ⟨rfl,?_⟩,by repeat first|exact .nil|refine .cons (by repeat constructor) ?_⟩ ⟨hin, by omega⟩
 ·have hie : i = m.tables.length := by omega
  subst hie
  simp only [List.take_length]
  repeat' (first|refine Sp.h ?_|refine Lk.r rfl ?_|refine Rf.mk rfl ?_|(apply Bd.f;(focus first|assumption|omega|exact Bool.false_ne_true))|(apply Nm.r;focus repeat constructor)|fail)
  exact Fin.p rfl rfl
end Go.Proofs.YtmllihbhphnolaaGreat
namespace Go.Proofs.YtmllihbhphnolaaGreat
open Go Go.CF
set_option maxRecDepth 20000
theorem ovF_int : OvF Tryz.prog 256 22 :=
 ⟨_, 4, Tryz.func256, by kernel_rfl, by kernel_rfl, by kernel_rfl, by kernel_rfl⟩
instance (priority := 2000) {T : Nat → Ord × (Nat → Cls)} {n : Nat} {rs : Array ResultVar} {K : AV → List Res → Prop} {h0 : Heap} {G0 O0 : Nat → Prop} {d : Tmp} {x y : Operand} {tys : Array TypeId} {ty : TypeId} {e : EA} {o : List Res} {N : NA} :
  Sp (SA ⟨Tryz.prog, tt, en, pg, T, n, rs, K, h0, G0, O0, ⟨none⟩⟩ .loud (some d) (.call { callee := .value (.func 256), args := #[x, y], argTypes := tys }) ty e o N)
   (Lk (evA e x) fun a => Lk (evA e y) fun b => Ovl o a b (N ((d, .val (.bool false)) :: e) o)) := ⟨fun h => SA.ovl ovF_int (tS := 22) rfl rfl h⟩
set_option maxHeartbeats 1000000 in
theorem insertI_a (w u : Value) (L : List (List Value)) (r : List Value) (i : Nat) (hi : i ≤ L.length) (hl : L.length ≤ 1000000) :
  CallA Tryz.prog 191 [.ow w, it i, .ow u] [arrR w 3 1 L valR, arrR u 3 1 [r] valR] fun q own => ∃ w', q = .ow w' ∧ own = [arrR w' 3 1 (L.take i ++ r :: L.drop i) valR] := by
 refine CallA.of pg ord191 Tryz.func191 rfl Tryz.ntmps191 Tryz.results191 rfl fun h0 G0 O0 => ?_
 have h1r : ([r] : List (List Value)).length = 1 := rfl
 by_cases hin : i = L.length
 ·subst hin
  rw [List.take_length, List.drop_length]
  repeat' (first|refine Sp.h ?_|refine Lk.r rfl ?_|refine Rf.mk rfl ?_|(apply Bd.t;(focus first|assumption|omega|rfl))|(apply Bd.f;(focus first|assumption|omega|exact Bool.false_ne_true))|(apply Om.mk;(focus first|omega|(simp <;> omega)))|(refine All.mk ?_;intro _)|(apply TkA.r;(focus repeat constructor))|refine Ce.r ?_|(apply Nm.r;focus repeat constructor)|refine Rf.mk ⟨rfl, rfl⟩ ?_|(apply Jx.r;(focus exact rfl);(focus first|omega|(simp;done)|(simp;omega)))|refine Mp.same ?_|fail)
  exact ⟨_, _, .one (.same (.nil (by (repeat first|exact .nil|refine .cons (by repeat constructor) ?_)))), _, rfl, rfl⟩
 have hin : i < L.length := by omega
 by_cases hc : capV w < L.length + 1
 ·repeat' (first|refine Sp.h ?_|refine Lk.r rfl ?_|refine Rf.mk rfl ?_|(apply Bd.t;(focus first|assumption|omega|rfl))|(apply Bd.f;(focus first|assumption|omega|exact Bool.false_ne_true))|(refine Im.mk ?_;intro _)|(apply TkA.r;(focus repeat constructor))|refine Rf.mk ⟨rfl, rfl⟩ ?_|refine Rf.mk ⟨rfl, rfl, rfl⟩ ?_|(apply Jx.r;(focus exact rfl);(focus first|omega|(simp;done)|(simp;omega)))|refine Mp.same ?_|(apply Ov.n;(focus first|omega|(simp <;> omega)))|fail)
  refine Jx.r (j := L.length + [r].length - i) (by omega) (by omega) ?_
  (repeat' (first|(show CA _ _ (Code.region 12 _ _) _ _;apply Stopped.out)|refine Sp.h ?_|refine Lk.r rfl ?_|refine Rf.mk rfl ?_|refine OpK.r rfl ?_|(apply Om.mk;(focus first|omega|(simp <;> omega)))|(refine All.mk ?_;intro _)|(apply TkA.r;(focus repeat constructor))|refine Rf.mk ⟨rfl, rfl⟩ ?_|refine Rf.mk ⟨rfl, rfl, rfl⟩ ?_|(apply Jx.r;(focus exact rfl);(focus first|omega|(simp;done)|(simp;omega)))|refine Mp.same ?_|(apply CA.draw;(focus rfl);(focus kernel_rfl);(focus kernel_rfl);(focus repeat' constructor);(focus rfl))|(apply Ov.n;(focus first|omega|(simp <;> omega)))|(apply CpS.part;(focus (repeat constructor;done)))|(apply TkX.r;(focus repeat constructor))|fail));any_goals apply Stopped.mk
  apply CA.ofX 9
  focus rfl
  focus (repeat constructor)
  focus (simp;omega)
  repeat' (first|refine Sp.h ?_|refine Lk.r rfl ?_|refine Rf.mk rfl ?_|(apply Nm.r;focus repeat constructor)|fail)
  rw [ins_eq2 hin _ _ _ _ _ _ (by omega) (by omega) (by omega) (by simp;omega) (by omega) h1r]
  exact ⟨_, _, .one (.same (.nil (by (repeat first|exact .nil|refine .cons (by repeat constructor) ?_)))), _, rfl, rfl⟩
 ·(repeat' (first|(show CA _ _ (Code.region 13 _ _) _ _;apply Stopped.out)|refine Sp.h ?_|refine Lk.r rfl ?_|refine Rf.mk rfl ?_|(apply Bd.f;(focus first|assumption|omega|exact Bool.false_ne_true))|(refine Im.mk ?_;intro _)|(apply TkA.r;(focus repeat constructor))|(apply Jx.r;(focus exact rfl);(focus first|omega|(simp;done)|(simp;omega)))|(apply Ov.n;(focus first|omega|(simp <;> omega)))|fail));any_goals apply Stopped.mk
  apply CA.toX 0
  focus rfl
  focus (repeat constructor)
  intro _
  (repeat' (first|(show CA _ _ (Code.region 16 _ _) _ _;apply Stopped.out)|refine Sp.h ?_|refine Lk.r rfl ?_|refine Rf.mk rfl ?_|(apply Bd.f;(focus first|assumption|omega|exact Bool.false_ne_true))|refine OpK.r rfl ?_|(apply Om.mk;(focus first|omega|(simp <;> omega)))|refine Rf.mk ⟨rfl, rfl, rfl⟩ ?_|(apply Jx.r;(focus exact rfl);(focus first|omega|(simp;done)|(simp;omega)))|(apply CA.draw;(focus rfl);(focus kernel_rfl);(focus kernel_rfl);(focus repeat' constructor);(focus rfl))|(apply Ov.n;(focus first|omega|(simp <;> omega)))|(apply CpS.part;(focus (repeat constructor;done)))|(apply TkX.r;(focus repeat constructor))|(apply ExX.long;(focus rfl);(focus first|omega|(simp <;> omega));(focus first|omega|(simp <;> omega)))|(apply Ovl.mk';(focus repeat constructor);(focus repeat constructor);(focus decide))|fail));any_goals apply Stopped.mk
  refine CA.sub ⟨[(0, .ow _), (1, it i), (2, .ow u)], [arrR _ 3 1 _ valR, arrR u 3 1 [r] valR]⟩ ⟨by repeat first|trivial|refine ⟨rfl,?_⟩,by repeat first|exact .nil|refine .cons (by repeat constructor) ?_⟩ ?_
  repeat' (first|refine Sp.h ?_|refine Lk.r rfl ?_|refine Rf.mk rfl ?_|(apply TkA.r;(focus repeat constructor))|(apply Nm.r;focus repeat constructor)|refine Rf.mk ⟨rfl, rfl, rfl⟩ ?_|(apply Jx.r;(focus exact rfl);(focus first|omega|(simp;done)|(simp;omega)))|refine Mp.same ?_|(apply CpS.all;(focus (repeat constructor;done)))|fail)
  rw [ins_eq hin _ _ _ (by omega) (by simp;omega) h1r]
  exact ⟨_, _, .one (.same (.nil (by (repeat first|exact .nil|refine .cons (by repeat constructor) ?_)))), _, rfl, rfl⟩
theorem isNaNS_p (x : Int) : CallP Tryz.prog 255 [it x] (bl false) := by
 refine CallA.of pg ord255 Tryz.func255 rfl Tryz.ntmps255 Tryz.results255 rfl fun h0 G0 O0 => ?_
 repeat' (first|refine Sp.h ?_|refine Lk.r rfl ?_|refine Rf.mk rfl ?_|(apply Nm.r;focus repeat constructor)|fail)
 all_goals exact Fin.p rfl (vb (by simp))
theorem lessI_p (x y : Int) : CallP Tryz.prog 218 [it x, it y] (bl (decide (x < y))) := by
 refine CallA.of pg ord218 Tryz.func218 rfl Tryz.ntmps218 Tryz.results218 rfl fun h0 G0 O0 => ?_
 repeat' (first|refine Sp.h ?_|refine Lk.r rfl ?_|refine Rf.mk rfl ?_|(apply Nm.r;focus repeat constructor)|(apply Cl.p (isNaN_p _);(focus repeat' (first|exact Lend.nil|apply Lend.keep|fail))))
 all_goals exact Fin.p rfl (vb (by first|rfl|(simp;done)|(simp;omega)))
noncomputable def posI (l : List Int) (n : Int) : Nat := idxN (fun y => decide (¬ y < n)) l
theorem posI_of {l : List Int} {x : Int} {n : Nat} (hn : n ≤ l.length) (h1 : ∀ (q : Nat) y, q < n → l[q]? = some y → y < x) (h2 : ∀ (q : Nat) y, n ≤ q → l[q]? = some y → ¬ y < x) : posI l x = n := by
 by_cases hnl : n < l.length
 ·obtain ⟨y, hy⟩ := get_of hnl
  exact idxN_of hy (decide_eq_true (h2 n y (Nat.le_refl _) hy)) fun j z hj hz => decide_eq_false (fun h => h (h1 j z hj hz))
 ·have hne : n = l.length := by omega
  rw [hne]
  exact idxN_none fun y hy => by
   obtain ⟨j, hj⟩ := List.getElem?_of_mem hy
   exact decide_eq_false (fun h => h (h1 j y (by have := (List.getElem?_eq_some_iff.1 hj).1;omega) hj))
abbrev SrtI (l : List Int) : Prop := l.Pairwise (· < ·)
theorem srtI_at {l : List Int} (h : SrtI l) {i j : Nat} {a b : Int} (hij : i < j) (ha : l[i]? = some a) (hb : l[j]? = some b) : a < b := by
 obtain ⟨h1, rfl⟩ := List.getElem?_eq_some_iff.1 ha
 obtain ⟨h2, rfl⟩ := List.getElem?_eq_some_iff.1 hb
 exact List.pairwise_iff_getElem.1 h i j h1 h2 hij
theorem binI_p (l : List Int) (x : Int) (hs : SrtI l) (hl : l.length ≤ 1000000) :
  CallP Tryz.prog 190 [ints l, it x] (.tup [it (posI l x : Nat), bl (decide (x ∈ l))]) := by
 have hmem : ∀ n, posI l x = n → (∀ (q : Nat) y, q < n → l[q]? = some y → y < x) → (∀ (q : Nat) y, n ≤ q → l[q]? = some y → ¬ y < x) → (x ∈ l ↔ l[n]? = some x) := fun n _ h1 h2 => by
  constructor
  ·intro h
   obtain ⟨j, hj⟩ := List.getElem?_of_mem h
   rcases Nat.lt_trichotomy j n with hjn|hjn|hjn
   ·have := h1 j x hjn hj;omega
   ·rw [← hjn];exact hj
   ·have hjl := (List.getElem?_eq_some_iff.1 hj).1
    obtain ⟨z, hz⟩ := get_of (l := l) (i := n) (by omega)
    have := srtI_at hs hjn hz hj
    exact absurd this (h2 n z (Nat.le_refl _) hz)
  ·exact List.mem_of_getElem?
 refine CallA.of pg ord190 Tryz.func190 rfl Tryz.ntmps190 Tryz.results190 rfl fun h0 G0 O0 => ?_
 repeat' (first|refine Sp.h ?_|refine Lk.r rfl ?_|refine Rf.mk rfl ?_|(refine Im.mk ?_;intro _)|fail)
 refine CA.loop (fun p : Nat × Nat => ⟨[(0, ints l), (1, it x), (6, it (l.length : Nat)), (7, it p.1), (8, it p.2)], []⟩)
  (fun p => p.1 ≤ p.2 ∧ p.2 ≤ l.length ∧ (∀ (q : Nat) y, q < p.1 → l[q]? = some y → y < x) ∧ ∀ (q : Nat) y, p.2 ≤ q → l[q]? = some y → ¬ y < x) (fun p => p.2 - p.1) (0, l.length) ⟨by repeat first|trivial|refine ⟨rfl,?_⟩,by repeat first|exact .nil|refine .cons (by repeat constructor) ?_⟩
  ⟨Nat.zero_le _, Nat.le_refl _, fun q y h => absurd h (Nat.not_lt_zero q), fun q y h h' => by have := (List.getElem?_eq_some_iff.1 h').1;simp only at h;omega⟩ ?_
 rintro ⟨i, j⟩ ⟨h1, h2, h3, h4⟩
 simp only at h1 h2 h3 h4
 simp only
 by_cases hij : i < j
 ·obtain ⟨y, hy⟩ := get_of (l := l) (i := (i + j) / 2) (by omega)
  have e1 : ((i : Int) + (j : Int)) / 2 = (((i + j) / 2 : Nat) : Int) := by omega
  have hle := lessI_p y x
  by_cases hyx : y < x
  ·repeat' (first|refine Sp.h ?_|refine Lk.r rfl ?_|refine Rf.mk rfl ?_|(apply Bd.t;(focus first|assumption|omega|rfl))|(apply Ix.q;(focus exact rfl);(focus assumption))|(apply Ov.n;(focus first|omega|(simp <;> omega)))|(apply Cvk.i64;(focus rfl);(focus omega))|(apply Cvk.u64;(focus rfl);(focus omega))|(apply Cl.p (hle);(focus repeat' (first|exact Lend.nil|apply Lend.keep|fail))))
   exact PA.lp ((i + j) / 2 + 1, j) ⟨by repeat first|trivial|refine ⟨rfl,?_⟩,by repeat first|exact .nil|refine .cons (by repeat constructor) ?_⟩ ⟨⟨by simp only;omega, h2, fun q z hq hz => by
    simp only at hq
    by_cases hqe : q = (i + j) / 2
    ·subst hqe;rw [hy] at hz;cases hz;exact hyx
    ·have := srtI_at hs (show q < (i + j) / 2 by omega) hz hy;omega, h4⟩, by simp only;omega⟩
  ·repeat' (first|refine Sp.h ?_|refine Lk.r rfl ?_|refine Rf.mk rfl ?_|(apply Bd.t;(focus first|assumption|omega|rfl))|(apply Bd.f;(focus first|assumption|omega|exact Bool.false_ne_true))|(apply Ix.q;(focus exact rfl);(focus assumption))|(apply Ov.n;(focus first|omega|(simp <;> omega)))|(apply Cvk.i64;(focus rfl);(focus omega))|(apply Cvk.u64;(focus rfl);(focus omega))|(apply Cl.p (hle);(focus repeat' (first|exact Lend.nil|apply Lend.keep|fail))))
   exact PA.lp (i, (i + j) / 2) ⟨by repeat first|trivial|refine ⟨rfl,?_⟩,by repeat first|exact .nil|refine .cons (by repeat constructor) ?_⟩ ⟨⟨by simp only;omega, by simp only;omega, h3, fun q z hq hz h => by
    simp only at hq
    by_cases hqe : q = (i + j) / 2
    ·subst hqe;rw [hy] at hz;cases hz;exact hyx h
    ·have := srtI_at hs (show (i + j) / 2 < q by omega) hy hz;omega⟩, by simp only;omega⟩
 ·have hije : i = j := by omega
  subst hije
  have hpos := posI_of h2 h3 h4
  have hm := hmem i hpos h3 h4
  rw [hpos]
  by_cases hin : i < l.length
  ·obtain ⟨y, hy⟩ := get_of hin
   have hme : x ∈ l ↔ y = x := hm.trans (by rw [hy];simp)
   rw [show decide (x ∈ l) = decide (y = x) from decide_eq_decide.2 hme]
   repeat' (first|refine Sp.h ?_|refine Lk.r rfl ?_|refine Rf.mk rfl ?_|(apply Bd.t;(focus first|assumption|omega|rfl))|(apply Bd.f;(focus first|assumption|omega|exact Bool.false_ne_true))|(refine Bd.mk ?_ ?_ <;> intro _)|(apply Ix.q;(focus exact rfl);(focus assumption))|(apply Nm.r;focus repeat constructor)|(apply Cl.p (isNaNS_p _);(focus repeat' (first|exact Lend.nil|apply Lend.keep|fail))))
   all_goals exact Fin.p rfl (by first|rw [decide_eq_true (by first|rfl|assumption)] | rw [decide_eq_false (by assumption)])
  ·have : decide (x ∈ l) = false := decide_eq_false (fun h => by have := (List.getElem?_eq_some_iff.1 (hm.1 h)).1;omega)
   rw [this]
   repeat' (first|refine Sp.h ?_|refine Lk.r rfl ?_|refine Rf.mk rfl ?_|(apply Bd.f;(focus first|assumption|omega|exact Bool.false_ne_true))|(apply Nm.r;focus repeat constructor)|(apply Cl.p (isNaNS_p _);(focus repeat' (first|fail))))
   all_goals exact Fin.p rfl rfl
def rowI (x : Int) : List Value := [.int .i64 x]
theorem rowI_map (l : List Int) : (l.map rowI).map valR = l.map intC := by rw [List.map_map];rfl
theorem with_eq {l : List Int} {n : Int} (hs : SrtI l) (hn : n ∉ l) : withP l n = l.take (posI l n) ++ n :: l.drop (posI l n) := by
 rw [withP, if_neg hn]
 have key : ∀ l : List Int, SrtI l → n ∉ l → l.filter (· < n) = l.take (posI l n) ∧ l.filter (n < ·) = l.drop (posI l n) := by
  intro l
  induction l with
  | nil => intro _ _;exact ⟨rfl, rfl⟩
  | cons a l ih =>
   intro hs hn
   obtain ⟨s1, s2⟩ := List.pairwise_cons.1 hs
   obtain ⟨i1, i2⟩ := ih s2 (fun h => hn (List.mem_cons_of_mem _ h))
   by_cases ha : a < n
   ·have hp : posI (a :: l) n = posI l n + 1 := by simp [posI, idxN, ha]
    rw [hp, List.take_succ_cons, List.drop_succ_cons, List.filter_cons_of_pos (by simpa using ha), List.filter_cons_of_neg (by simp;omega), i1, i2]
    exact ⟨rfl, rfl⟩
   ·have hp : posI (a :: l) n = 0 := by simp [posI, idxN, ha]
    have hne : a ≠ n := fun e => hn (e ▸ List.mem_cons_self)
    rw [hp, List.take_zero, List.drop_zero]
    refine ⟨List.filter_eq_nil_iff.2 fun y hy => ?_, List.filter_eq_self.2 fun y hy => ?_⟩
    ·rcases List.mem_cons.1 hy with rfl|hy
     ·simp;omega
     ·have := s1 y hy;simp;omega
    ·rcases List.mem_cons.1 hy with rfl|hy
     ·simp;omega
     ·have := s1 y hy;simp;omega
 obtain ⟨k1, k2⟩ := key l hs hn
 rw [k1, k2]
theorem insertN_a (w u : Value) (l : List Int) (n : Int) (i : Nat) (hi : i ≤ l.length) (hl : l.length ≤ 1000000) :
  CallA Tryz.prog 191 [.ow w, it i, .ow u] [arrR w 3 1 l intC, arrR u 3 1 [[it n]] id] fun q own => ∃ w', q = .ow w' ∧ own = [arrR w' 3 1 (l.take i ++ n :: l.drop i) intC] := by
 have h := insertI_a w u (l.map rowI) (rowI n) i (by simpa using hi) (by simpa using hl)
 rw [arrR_eq (l := l.map rowI) (f := valR) (m := l) (g := intC) (rowI_map l), arrR_eq (l := [rowI n]) (f := valR) (m := [[it n]]) (g := id) rfl] at h
 refine h.mono ?_
 rintro _ _ ⟨w', rfl, rfl⟩
 refine ⟨w', rfl, ?_⟩
 rw [show (l.map rowI).take i ++ rowI n :: (l.map rowI).drop i = (l.take i ++ n :: l.drop i).map rowI by simp]
 rw [arrR_eq (rowI_map _)]
theorem with_p (l : List Int) (n : Int) (hs : SrtI l) (hl : l.length ≤ 100000) : CallP Tryz.prog 132 [ints l, it n] (ints (withP l n)) := by
 have hb := binI_p l n hs (by omega)
 have hc := clone_o l (by omega)
 by_cases hn : n ∈ l
 ·rw [show withP l n = l from if_pos hn]
  rw [decide_eq_true hn] at hb
  refine CallA.of pg ord132 Tryz.func132 rfl Tryz.ntmps132 Tryz.results132 rfl fun h0 G0 O0 => ?_
  repeat' (first|refine Sp.h ?_|refine Lk.r rfl ?_|refine Rf.mk rfl ?_|(apply Nm.r;focus repeat constructor)|(apply Cl.p (hb);(focus repeat' (first|exact Lend.nil|apply Lend.keep|fail))))
  exact Fin.p rfl rfl
 ·have hpl : posI l n ≤ l.length := idxN_le _ _
  rw [decide_eq_false hn] at hb
  rw [with_eq hs hn]
  refine CallA.fz (T := 3) (by simp;omega) ?_
  refine CallA.of pg ord132 Tryz.func132 rfl Tryz.ntmps132 Tryz.results132 rfl fun h0 G0 O0 => ?_
  repeat' (first|refine Sp.h ?_|refine Lk.r rfl ?_|refine Rf.mk rfl ?_|(apply Cl.p (hb);(focus repeat' (first|exact Lend.nil|apply Lend.keep|fail))))
  (refine Cl.use (hc) (by repeat' (first|exact Lend.nil|apply Lend.keep|fail)) .nil rfl ?_;rintro _ _ ⟨_, rfl, rfl⟩)
  repeat' (first|refine Sp.h ?_|refine Lk.r rfl ?_|refine Rf.mk rfl ?_|(refine All.mk ?_;intro _)|(apply Fk.r;(focus (repeat (first|exact FillA.nil|(apply FillA.agg;(focus rfl);(focus rfl);(focus (repeat (first|exact SetAs.z|(apply SetAs.c;(focus (repeat first|assumption|constructor)))))))|(apply FillA.one;(focus rfl);(focus infer_instance);(focus (repeat first|assumption|constructor)))))))|refine Rf.mk ⟨rfl, rfl, rfl⟩ ?_|fail)
  rename_i w u
  have hi := insertN_a w u l n (posI l n) hpl (by omega)
  (apply Cl.use (hi);(focus repeat' (first|exact Lend.nil|apply Lend.keep|fail));(focus (repeat (first|exact Takes.nil|(apply Takes.cons;(focus repeat constructor)))));(focus rfl))
  rintro _ _ ⟨w', rfl, rfl⟩
  repeat' (first|refine Sp.h ?_|refine Lk.r rfl ?_|(apply Nm.r;focus repeat constructor)|fail)
  exact ⟨_, _, .one (.same (.nil (by (repeat first|exact .nil|refine .cons (by repeat constructor) ?_)))), _, rfl, rfl⟩
end Go.Proofs.YtmllihbhphnolaaGreat
