/- Part 10 of the ground of this proof: what its texts say of the model, the program and the plain data; conditions: those that are named. -/
import Derived.Test.YtpgpdmmobblffaaGreatP09
namespace Go.Proofs.YtpgpdmmobblffaaGreat
open Go Go.CF
set_option maxRecDepth 20000
/-- Marks of a cell: in order, each name once. -/
def GoodK (l : List MkS) : Prop := l.Pairwise LtK ∧ l.Pairwise fun x y => ¬ Nm x y
theorem GoodK.nm {l : List MkS} (h : GoodK l) {x y : MkS} (hx : x ∈ l) (hy : y ∈ l) (hn : Nm x y) : x = y := by
  obtain ⟨i, hi⟩ := List.getElem?_of_mem hx
  obtain ⟨j, hj⟩ := List.getElem?_of_mem hy
  obtain ⟨i1, rfl⟩ := List.getElem?_eq_some_iff.1 hi
  obtain ⟨j1, rfl⟩ := List.getElem?_eq_some_iff.1 hj
  rcases Nat.lt_trichotomy i j with h9 | h9 | h9
  · exact absurd hn (List.pairwise_iff_getElem.1 h.2 i j i1 j1 h9)
  · subst h9; rfl
  · exact absurd (show Nm _ _ from ⟨hn.1.symm, hn.2.symm⟩) (List.pairwise_iff_getElem.1 h.2 j i j1 i1 h9)
/-- A mark of both that differs. -/
def OddK (a b : List MkS) : Prop := ∃ x ∈ a, ∃ y ∈ b, Nm y x ∧ x ≠ y
noncomputable instance (a b : List MkS) : Decidable (OddK a b) := Classical.propDecidable _
def inA (b : List MkS) (bc : List Int) (x : MkS) : Prop := HasNm b x ∨ ¬ HasC bc x.rep x.num
def inB2 (a : List MkS) (ac : List Int) (x : MkS) : Prop := ¬ HasNm a x ∧ ¬ HasC ac x.rep x.num
noncomputable def bothL (a : List MkS) (ac : List Int) (b : List MkS) (bc : List Int) : List MkS := canK fun x => (x ∈ a ∧ inA b bc x) ∨ (x ∈ b ∧ inB2 a ac x)
theorem fgK_mem {c : List Int} {l : List MkS} {x : MkS} : x ∈ fgK c l ↔ x ∈ l ∧ ¬ HasC c x.rep x.num := by simp [fgK, List.mem_filter]
theorem take_lt {α : Type} {l : List α} {i : Nat} {x y : α} {R : α → α → Prop} (h : l.Pairwise R) (hx : l[i]? = some x) (hy : y ∈ l.take i) : R y x := by
  obtain ⟨j, hj⟩ := List.getElem?_of_mem hy
  have hjl : j < i := by have := (List.getElem?_eq_some_iff.1 hj).1; simp at this; omega
  rw [List.getElem?_take, if_pos hjl] at hj
  obtain ⟨p1, rfl⟩ := List.getElem?_eq_some_iff.1 hj
  obtain ⟨q1, rfl⟩ := List.getElem?_eq_some_iff.1 hx
  exact List.pairwise_iff_getElem.1 h j i p1 q1 hjl
set_option maxHeartbeats 4000000 in
theorem both_p (a b : List MkS) (ac bc : List Int) (ha : GoodK a) (hb : GoodK b) (hla : a.length ≤ 10000) (hlb : b.length ≤ 10000) :
    CallP Tryz.prog 73 [mks a, ints ac, mks b, ints bc] (.tup [mks (bothL a ac b bc), bl (decide (OddK a b))]) := by
  have hu1 := unseen_p a bc (by omega)
  have hu2 := unseen_p b ac (by omega)
  refine CallA.of pg ord73 Tryz.func73 rfl Tryz.ntmps73 Tryz.results73 rfl fun h0 G0 O0 => ?_
  (repeat' (first | (show CA _ _ (Code.region 2 _ _) _ _; apply Stopped.out) | refine Sp.h ?_ | refine Lk.r rfl ?_ | refine Rf.mk rfl ?_ | (refine All.mk ?_; intro _) | (apply Fk.r; (focus (repeat (first | exact FillA.nil | (apply FillA.agg; (focus rfl); (focus rfl); (focus (repeat (first | exact SetAs.z | (apply SetAs.c; (focus (repeat (first | assumption | exact SetA.z | apply SetA.s)))))))) | (apply FillA.one; (focus rfl); (focus infer_instance); (focus (repeat (first | assumption | exact SetA.z | apply SetA.s)))))))) | refine Rf.mk ⟨rfl, rfl, rfl⟩ ?_ | fail)); any_goals apply Stopped.mk
  apply CA.retype (m := ([] : List MkS)) (g := mkC)
  focus (repeat (first | exact Take.here | apply Take.there))
  focus rfl
  apply CA.freeze 10
  focus rfl
  focus (repeat (first | exact Take.here | apply Take.there))
  focus exact Nat.zero_le _
  apply CA.sub ⟨[(0, mks a), (1, ints ac), (2, mks b), (3, ints bc), (10, mks [])], []⟩
  focus exact ⟨by refine ⟨rfl, ?_⟩; refine ⟨rfl, ?_⟩; refine ⟨rfl, ?_⟩; refine ⟨rfl, ?_⟩; exact ⟨rfl, trivial⟩, .nil⟩
  repeat' (first | refine Sp.h ?_ | refine Lk.r rfl ?_ | refine Rf.mk rfl ?_ | fail | (apply Cl.p (hu1); (focus repeat' (first | exact Lend.nil | apply Lend.keep | fail))))
  refine CA.loop (fun q : Nat × List MkS × Bool => ⟨[(0, mks a), (1, ints ac), (2, mks b), (10, mks q.2.1), (11, bl q.2.2), (12, mks (fgK bc a)), (13, it q.1)], []⟩)
    (fun q => q.1 ≤ a.length ∧ q.2.1.length ≤ q.1 ∧ q.2.1.Pairwise LtK ∧ (∀ x, x ∈ q.2.1 ↔ x ∈ a.take q.1 ∧ inA b bc x) ∧ (q.2.2 = true ↔ OddK (a.take q.1) b)) (fun q => a.length - q.1) (0, [], false) ⟨by (repeat (first | exact trivial | refine ⟨rfl, ?_⟩)), by (repeat (first | exact Subl.nil | refine Subl.cons (by (repeat (first | exact Take.here | apply Take.there))) ?_))⟩
    ⟨Nat.zero_le _, Nat.zero_le _, List.Pairwise.nil, by simp, by simp [OddK]⟩ ?_
  rintro ⟨i, out, odd⟩ ⟨h1, h2, h3, h4, h5⟩
  simp only at h1 h2 h3 h4 h5
  simp only
  by_cases hin : i < a.length
  · obtain ⟨x, hx⟩ := get_of hin
    have htk : a.take (i + 1) = a.take i ++ [x] := by rw [List.take_add_one, hx]; rfl
    have hxa := List.mem_of_getElem? hx
    have hf1 := find34_p b x
    have hf2 := find34_p (fgK bc a) x
    have hno : ¬ HasNm out x := fun ⟨y, hy, hn⟩ => take_lt ha.2 hx ((h4 y).1 hy).1 hn
    have had := add34_p out x hno (by omega)
    have hsk := addL_sk h3 hno
    have hal := addL_len out x
    have hb1 := fndN_has (l := b) (x := x)
    have hb2 := fndN_has (l := fgK bc a) (x := x)
    have hb2' : HasNm (fgK bc a) x ↔ ¬ HasC bc x.rep x.num := by
      constructor
      · rintro ⟨y, hy, hn⟩
        obtain ⟨g1, g2⟩ := fgK_mem.1 hy
        rw [ha.nm g1 hxa hn] at g2; exact g2
      · exact fun h => ⟨x, fgK_mem.2 ⟨hxa, h⟩, rfl, rfl⟩
    have hmem : ∀ z, z ∈ a.take (i + 1) ∧ inA b bc z ↔ (z ∈ a.take i ∧ inA b bc z) ∨ (z = x ∧ inA b bc x) := fun z => by
      rw [htk, List.mem_append, List.mem_singleton]
      constructor
      · rintro ⟨g | g, g2⟩
        · exact .inl ⟨g, g2⟩
        · subst g; exact .inr ⟨rfl, g2⟩
      · rintro (⟨g, g2⟩ | ⟨g, g2⟩)
        · exact ⟨.inl g, g2⟩
        · subst g; exact ⟨.inr rfl, g2⟩
    have hodd : OddK (a.take (i + 1)) b ↔ OddK (a.take i) b ∨ ∃ y ∈ b, Nm y x ∧ x ≠ y := by
      rw [htk]
      constructor
      · rintro ⟨z, hz, y, hy⟩
        rcases List.mem_append.1 hz with g | g
        · exact .inl ⟨z, g, y, hy⟩
        · rw [List.mem_singleton.1 g] at hy; exact .inr ⟨y, hy⟩
      · rintro (⟨z, hz, y, hy⟩ | ⟨y, hy⟩)
        · exact ⟨z, List.mem_append.2 (.inl hz), y, hy⟩
        · exact ⟨x, by simp, y, hy⟩
    (repeat' (first | (show CA _ _ (Code.block 1 _) _ _; apply Stopped.out) | refine Sp.h ?_ | refine Lk.r rfl ?_ | refine Rf.mk rfl ?_ | (apply Bd.t; (focus (first | assumption | omega | rfl))) | (refine Im.mk ?_; intro _) | fail)); any_goals apply Stopped.mk
    refine CA.cut (fun q : List MkS × Bool => ⟨[(0, mks a), (1, ints ac), (2, mks b), (10, mks q.1), (11, bl q.2), (12, mks (fgK bc a)), (13, it i)], []⟩) (fun q => q.1.length ≤ i + 1 ∧ q.1.Pairwise LtK ∧ (∀ z, z ∈ q.1 ↔ z ∈ a.take (i + 1) ∧ inA b bc z) ∧ (q.2 = true ↔ OddK (a.take (i + 1)) b)) ?_ ?_
    · have hin2 : inA b bc x → ∀ z, z ∈ addL out x ↔ z ∈ a.take (i + 1) ∧ inA b bc z := fun hin1 z => by
        rw [hsk.2, h4, hmem]
        exact ⟨fun h => h.imp id fun h => ⟨h, hin1⟩, fun h => h.imp id fun h => h.1⟩
      have hout : ¬ inA b bc x → ∀ z, z ∈ out ↔ z ∈ a.take (i + 1) ∧ inA b bc z := fun hin1 z => by
        rw [h4, hmem]
        exact ⟨.inl, fun h => h.elim id fun h => absurd h.2 hin1⟩
      have hal2 : (addL out x).length ≤ i + 1 := by omega
      cases hfb : fndN b x.rep x.num with
      | some y =>
        obtain ⟨hyb, hyn⟩ := fndN_some hfb
        have hin1 : inA b bc x := .inl ⟨y, hyb, hyn⟩
        have hex : (∃ y ∈ b, Nm y x ∧ x ≠ y) ↔ y ≠ x := by
          constructor
          · rintro ⟨z, hz, hn, hne⟩ e
            subst e
            exact hne (hb.nm hyb hz ⟨hn.1.symm, hn.2.symm⟩)
          · exact fun h => ⟨y, hyb, hyn, fun e => h e.symm⟩
        rw [hex] at hodd
        have hf1 : CallP Tryz.prog 103 [mks b, mA x] (.tup [.agg (mkC y), bl true]) := by rw [hfb] at hf1; exact hf1
        have hyx : [y.rep, y.num, y.time, y.val] = [x.rep, x.num, x.time, x.val] ↔ y = x := ⟨fun h9 => by simp only [List.cons.injEq, and_true] at h9; exact mks_ext h9.1 h9.2.1 h9.2.2.1 h9.2.2.2, fun h => by rw [h]⟩
        cases odd
        · have hnp : ¬ OddK (a.take i) b := fun h => by have := h5.2 h; cases this
          have ho : ∀ o2 : Bool, (o2 = true ↔ ¬ [y.rep, y.num, y.time, y.val] = [x.rep, x.num, x.time, x.val]) → (o2 = true ↔ OddK (a.take (i + 1)) b) := fun o2 h => by
            rw [h, hyx, hodd]
            exact ⟨.inr, fun h => h.resolve_left hnp⟩
          repeat' (first | refine Sp.h ?_ | refine Lk.r rfl ?_ | refine Rf.mk rfl ?_ | refine OpK.r rfl ?_ | (refine All.mk ?_; intro _) | (apply TkB.r; (focus (repeat (first | exact Take.here | apply Take.there)))) | (apply Ix.q; (focus exact rfl); (focus assumption)) | refine Ch.l ⟨rfl, rfl⟩ ?_ | (apply SetAsk.r; (focus (repeat (first | exact SetAs.z | (apply SetAs.c; (focus (repeat (first | assumption | exact SetA.z | apply SetA.s)))))))) | (apply Nm.r; (focus repeat (first | apply LN.cons | exact LN.nil))) | (apply Il.r; (focus repeat (first | apply ILit.cons | exact ILit.nil))) | (apply Kf.mk; (focus kernel_rfl)) | (apply CA.draw; (focus rfl); (focus kernel_rfl); (focus kernel_rfl); (focus repeat' (first | apply ON.one | exact ON.done | exact ON.none | apply ON.alt)); (focus rfl)) | fail | (apply Cl.p (hf1); (focus ((repeat' (first | exact Lend.nil | apply Lend.keep | fail)); done))) | (apply Cl.p (hf2); (focus ((repeat' (first | exact Lend.nil | apply Lend.keep | fail)); done))) | (apply Cl.p (had); (focus ((repeat' (first | exact Lend.nil | apply Lend.keep | fail)); done))))
          all_goals exact PA.lp (addL out x, _) ⟨by (repeat (first | exact trivial | refine ⟨rfl, ?_⟩)), by (repeat (first | exact Subl.nil | refine Subl.cons (by (repeat (first | exact Take.here | apply Take.there))) ?_))⟩ ⟨hal2, hsk.1, hin2 hin1, ho _ decide_eq_true_iff⟩
        · repeat' (first | refine Sp.h ?_ | refine Lk.r rfl ?_ | refine Rf.mk rfl ?_ | refine OpK.r rfl ?_ | (refine All.mk ?_; intro _) | (apply TkB.r; (focus (repeat (first | exact Take.here | apply Take.there)))) | (apply Ix.q; (focus exact rfl); (focus assumption)) | refine Ch.l ⟨rfl, rfl⟩ ?_ | (apply SetAsk.r; (focus (repeat (first | exact SetAs.z | (apply SetAs.c; (focus (repeat (first | assumption | exact SetA.z | apply SetA.s)))))))) | (apply Nm.r; (focus repeat (first | apply LN.cons | exact LN.nil))) | (apply CA.draw; (focus rfl); (focus kernel_rfl); (focus kernel_rfl); (focus repeat' (first | apply ON.one | exact ON.done | exact ON.none | apply ON.alt)); (focus rfl)) | fail | (apply Cl.p (hf1); (focus ((repeat' (first | exact Lend.nil | apply Lend.keep | fail)); done))) | (apply Cl.p (hf2); (focus ((repeat' (first | exact Lend.nil | apply Lend.keep | fail)); done))) | (apply Cl.p (had); (focus ((repeat' (first | exact Lend.nil | apply Lend.keep | fail)); done))))
          all_goals exact PA.lp (addL out x, true) ⟨by (repeat (first | exact trivial | refine ⟨rfl, ?_⟩)), by (repeat (first | exact Subl.nil | refine Subl.cons (by (repeat (first | exact Take.here | apply Take.there))) ?_))⟩ ⟨hal2, hsk.1, hin2 hin1, ⟨fun _ => hodd.2 (.inl (h5.1 rfl)), fun _ => rfl⟩⟩
      | none =>
        have hnb : ¬ HasNm b x := fun h => by have := hb1.2 h; rw [hfb] at this; cases this
        have hf1 : CallP Tryz.prog 103 [mks b, mA x] (.tup [.agg (mkC mk0), bl false]) := by rw [hfb] at hf1; exact hf1
        have ho : odd = true ↔ OddK (a.take (i + 1)) b := by
          rw [hodd, h5]
          exact ⟨.inl, fun h => h.resolve_right fun ⟨y, hy, hn, _⟩ => hnb ⟨y, hy, hn⟩⟩
        by_cases hh : HasC bc x.rep x.num
        · have hni : ¬ inA b bc x := fun h => h.elim hnb fun h => h hh
          have hff : (fndN (fgK bc a) x.rep x.num).isSome = false := by
            cases h9 : (fndN (fgK bc a) x.rep x.num).isSome
            · rfl
            · exact absurd hh (hb2'.1 (hb2.1 h9))
          rw [hff] at hf2
          cases odd
          all_goals repeat' (first | refine Sp.h ?_ | refine Lk.r rfl ?_ | refine Rf.mk rfl ?_ | refine OpK.r rfl ?_ | (refine All.mk ?_; intro _) | (apply TkB.r; (focus (repeat (first | exact Take.here | apply Take.there)))) | (apply Ix.q; (focus exact rfl); (focus assumption)) | refine Ch.l ⟨rfl, rfl⟩ ?_ | (apply SetAsk.r; (focus (repeat (first | exact SetAs.z | (apply SetAs.c; (focus (repeat (first | assumption | exact SetA.z | apply SetA.s)))))))) | (apply Nm.r; (focus repeat (first | apply LN.cons | exact LN.nil))) | (apply CA.draw; (focus rfl); (focus kernel_rfl); (focus kernel_rfl); (focus repeat' (first | apply ON.one | exact ON.done | exact ON.none | apply ON.alt)); (focus rfl)) | fail | (apply Cl.p (hf1); (focus ((repeat' (first | exact Lend.nil | apply Lend.keep | fail)); done))) | (apply Cl.p (hf2); (focus ((repeat' (first | exact Lend.nil | apply Lend.keep | fail)); done))) | (apply Cl.p (had); (focus ((repeat' (first | fail)); done))))
          all_goals exact PA.lp (out, _) ⟨by (repeat (first | exact trivial | refine ⟨rfl, ?_⟩)), by (repeat (first | exact Subl.nil | refine Subl.cons (by (repeat (first | exact Take.here | apply Take.there))) ?_))⟩ ⟨by simp only; omega, h3, hout hni, ho⟩
        · have hin1 : inA b bc x := .inr hh
          have hff : (fndN (fgK bc a) x.rep x.num).isSome = true := hb2.2 (hb2'.2 hh)
          rw [hff] at hf2
          cases odd
          all_goals repeat' (first | refine Sp.h ?_ | refine Lk.r rfl ?_ | refine Rf.mk rfl ?_ | refine OpK.r rfl ?_ | (refine All.mk ?_; intro _) | (apply TkB.r; (focus (repeat (first | exact Take.here | apply Take.there)))) | (apply Ix.q; (focus exact rfl); (focus assumption)) | refine Ch.l ⟨rfl, rfl⟩ ?_ | (apply SetAsk.r; (focus (repeat (first | exact SetAs.z | (apply SetAs.c; (focus (repeat (first | assumption | exact SetA.z | apply SetA.s)))))))) | (apply Nm.r; (focus repeat (first | apply LN.cons | exact LN.nil))) | (apply CA.draw; (focus rfl); (focus kernel_rfl); (focus kernel_rfl); (focus repeat' (first | apply ON.one | exact ON.done | exact ON.none | apply ON.alt)); (focus rfl)) | fail | (apply Cl.p (hf1); (focus ((repeat' (first | exact Lend.nil | apply Lend.keep | fail)); done))) | (apply Cl.p (hf2); (focus ((repeat' (first | exact Lend.nil | apply Lend.keep | fail)); done))) | (apply Cl.p (had); (focus ((repeat' (first | exact Lend.nil | apply Lend.keep | fail)); done))))
          all_goals exact PA.lp (addL out x, _) ⟨by (repeat (first | exact trivial | refine ⟨rfl, ?_⟩)), by (repeat (first | exact Subl.nil | refine Subl.cons (by (repeat (first | exact Take.here | apply Take.there))) ?_))⟩ ⟨hal2, hsk.1, hin2 hin1, ho⟩
    · rintro ⟨out2, odd2⟩ ⟨g1, g2, g3, g4⟩
      simp only at g1 g2 g3 g4
      simp only
      repeat' (first | refine Sp.h ?_ | refine Lk.r rfl ?_ | refine Rf.mk rfl ?_ | (apply Ov.n; (focus first | omega | (simp <;> omega))) | fail)
      exact PA.lp (i + 1, out2, odd2) ⟨by (repeat (first | exact trivial | refine ⟨rfl, ?_⟩)), by (repeat (first | exact Subl.nil | refine Subl.cons (by (repeat (first | exact Take.here | apply Take.there))) ?_))⟩ ⟨⟨hin, g1, g2, g3, g4⟩, by simp only; omega⟩
  · have hie : i = a.length := by omega
    subst hie
    rw [List.take_length] at h4 h5
    have hodd : odd = decide (OddK a b) := by
      cases odd
      · exact (decide_eq_false fun h => by have := h5.2 h; cases this).symm
      · exact (decide_eq_true (h5.1 rfl)).symm
    repeat' (first | refine Sp.h ?_ | refine Lk.r rfl ?_ | refine Rf.mk rfl ?_ | (apply Bd.f; (focus (first | assumption | omega | exact Bool.false_ne_true))) | (refine Im.mk ?_; intro _) | fail | (apply Cl.p (hu2); (focus repeat' (first | exact Lend.nil | apply Lend.keep | fail))))
    refine CA.loop (fun q : Nat × List MkS => ⟨[(0, mks a), (10, mks q.2), (11, bl odd), (12, mks (fgK ac b)), (18, it q.1)], []⟩)
      (fun q => q.1 ≤ (fgK ac b).length ∧ q.2.length ≤ a.length + q.1 ∧ q.2.Pairwise LtK ∧ (∀ x, x ∈ q.2 ↔ (x ∈ a ∧ inA b bc x) ∨ (x ∈ (fgK ac b).take q.1 ∧ ¬ HasNm a x))) (fun q => (fgK ac b).length - q.1) (0, out) ⟨by (repeat (first | exact trivial | refine ⟨rfl, ?_⟩)), by (repeat (first | exact Subl.nil | refine Subl.cons (by (repeat (first | exact Take.here | apply Take.there))) ?_))⟩
      ⟨Nat.zero_le _, by simp only; omega, h3, by simpa using h4⟩ ?_
    rintro ⟨i, L⟩ ⟨g1, g2, g3, g4⟩
    simp only at g1 g2 g3 g4
    simp only
    have hfl := fgK_len ac b
    by_cases hin2 : i < (fgK ac b).length
    · obtain ⟨x, hx⟩ := get_of hin2
      have htk : (fgK ac b).take (i + 1) = (fgK ac b).take i ++ [x] := by rw [List.take_add_one, hx]; rfl
      have hf1 := find34_p a x
      have hb1 := fndN_has (l := a) (x := x)
      have hmem : ∀ z, ((z ∈ a ∧ inA b bc z) ∨ (z ∈ (fgK ac b).take (i + 1) ∧ ¬ HasNm a z)) ↔ ((z ∈ a ∧ inA b bc z) ∨ (z ∈ (fgK ac b).take i ∧ ¬ HasNm a z)) ∨ (z = x ∧ ¬ HasNm a x) := fun z => by
        rw [htk, List.mem_append, List.mem_singleton]
        constructor
        · rintro (h | ⟨h | h, h2⟩)
          · exact .inl (.inl h)
          · exact .inl (.inr ⟨h, h2⟩)
          · subst h; exact .inr ⟨rfl, h2⟩
        · rintro ((h | h) | ⟨h, h2⟩)
          · exact .inl h
          · exact .inr ⟨.inl h.1, h.2⟩
          · subst h; exact .inr ⟨.inr rfl, h2⟩
      by_cases hh : HasNm a x
      · have hff : (fndN a x.rep x.num).isSome = true := hb1.2 hh
        rw [hff] at hf1
        repeat' (first | refine Sp.h ?_ | refine Lk.r rfl ?_ | refine Rf.mk rfl ?_ | (apply Bd.t; (focus (first | assumption | omega | rfl))) | (refine Im.mk ?_; intro _) | (refine All.mk ?_; intro _) | (apply TkB.r; (focus (repeat (first | exact Take.here | apply Take.there)))) | (apply Ix.q; (focus exact rfl); (focus assumption)) | refine Ch.l ⟨rfl, rfl⟩ ?_ | (apply SetAsk.r; (focus (repeat (first | exact SetAs.z | (apply SetAs.c; (focus (repeat (first | assumption | exact SetA.z | apply SetA.s)))))))) | (apply Nm.r; (focus repeat (first | apply LN.cons | exact LN.nil))) | (apply Ov.n; (focus first | omega | (simp <;> omega))) | fail | (apply Cl.p (hf1); (focus repeat' (first | exact Lend.nil | apply Lend.keep | fail))))
        exact PA.lp (i + 1, L) ⟨by (repeat (first | exact trivial | refine ⟨rfl, ?_⟩)), by (repeat (first | exact Subl.nil | refine Subl.cons (by (repeat (first | exact Take.here | apply Take.there))) ?_))⟩ ⟨⟨hin2, by simp only; omega, g3, fun z => by rw [hmem, g4]; exact ⟨.inl, fun h => h.elim id fun h => absurd hh h.2⟩⟩, by simp only; omega⟩
      · have hff : (fndN a x.rep x.num).isSome = false := by
          cases h9 : (fndN a x.rep x.num).isSome
          · rfl
          · exact absurd (hb1.1 h9) hh
        rw [hff] at hf1
        have hpf : (fgK ac b).Pairwise fun x y => ¬ Nm x y := hb.2.sublist List.filter_sublist
        have hno : ¬ HasNm L x := fun ⟨y, hy, hn⟩ => by
          rcases (g4 y).1 hy with h | h
          · exact hh ⟨y, h.1, hn⟩
          · exact take_lt hpf hx h.1 hn
        have had := add34_p L x hno (by omega)
        have hsk := addL_sk g3 hno
        have hal := addL_len L x
        repeat' (first | refine Sp.h ?_ | refine Lk.r rfl ?_ | refine Rf.mk rfl ?_ | (apply Bd.t; (focus (first | assumption | omega | rfl))) | (apply Bd.f; (focus (first | assumption | omega | exact Bool.false_ne_true))) | (refine Im.mk ?_; intro _) | (refine All.mk ?_; intro _) | (apply TkB.r; (focus (repeat (first | exact Take.here | apply Take.there)))) | (apply Ix.q; (focus exact rfl); (focus assumption)) | refine Ch.l ⟨rfl, rfl⟩ ?_ | (apply SetAsk.r; (focus (repeat (first | exact SetAs.z | (apply SetAs.c; (focus (repeat (first | assumption | exact SetA.z | apply SetA.s)))))))) | (apply Nm.r; (focus repeat (first | apply LN.cons | exact LN.nil))) | (apply Ov.n; (focus first | omega | (simp <;> omega))) | fail | (apply Cl.p (hf1); (focus repeat' (first | exact Lend.nil | apply Lend.keep | fail))) | (apply Cl.p (had); (focus repeat' (first | exact Lend.nil | apply Lend.keep | fail))))
        exact PA.lp (i + 1, addL L x) ⟨by (repeat (first | exact trivial | refine ⟨rfl, ?_⟩)), by (repeat (first | exact Subl.nil | refine Subl.cons (by (repeat (first | exact Take.here | apply Take.there))) ?_))⟩ ⟨⟨hin2, by simp only; omega, hsk.1, fun z => by rw [hmem, hsk.2, g4]; exact ⟨fun h => h.imp id fun h => ⟨h, hh⟩, fun h => h.imp id fun h => h.1⟩⟩, by simp only; omega⟩
    · have hie2 : i = (fgK ac b).length := by omega
      subst hie2
      rw [List.take_length] at g4
      have hL : bothL a ac b bc = L := canK_eq g3 fun x => by
        rw [g4, fgK_mem, inB2]
        exact ⟨fun h => h.imp id fun h => ⟨h.1.1, h.2, h.1.2⟩, fun h => h.imp id fun h => ⟨⟨h.1, h.2.2⟩, h.2.1⟩⟩
      rw [hL, ← hodd]
      repeat' (first | refine Sp.h ?_ | refine Lk.r rfl ?_ | refine Rf.mk rfl ?_ | (apply Bd.f; (focus (first | assumption | omega | exact Bool.false_ne_true))) | (refine Im.mk ?_; intro _) | (apply Nm.r; (focus repeat (first | apply LN.cons | exact LN.nil))) | fail)
      exact Fin.p rfl rfl
end Go.Proofs.YtpgpdmmobblffaaGreat
namespace Go.Proofs.YtpgpdmmobblffaaGreat
open Go Go.CF
set_option maxRecDepth 20000
def joinC (a b : List Int) : List Int := zipC max a b
theorem join_z {a b : List Int} (h : AlikeC [a, b]) : CallP Tryz.prog 36 [clks [a, b]] (ints (joinC a b)) :=
  CallA.fz (by have := ((alike2 a b).1 h).1.2; simp [joinC, zipC]; omega) (join_o [a, b] h)
end Go.Proofs.YtpgpdmmobblffaaGreat
namespace Go.Proofs.YtpgpdmmobblffaaGreat
open Go Go.CF
set_option maxRecDepth 20000
theorem ValG.good {t : TblS} {g : MgS} (h : ValG t g) : GoodK g.marks := by
  have h1 : g.marks.Pairwise fun x y => ¬ Nm x y := by
    rw [List.pairwise_iff_getElem]
    intro i j hi hj hij
    exact (h.2 j g.marks[j] hj (List.getElem?_eq_getElem hj)).2.1 i g.marks[i] hij (List.getElem?_eq_getElem hi)
  refine ⟨?_, h1⟩
  have h2 := h.srt
  rw [SrtK, List.pairwise_iff_getElem] at h2
  rw [List.pairwise_iff_getElem] at h1 ⊢
  intro i j hi hj hij
  have a1 := h1 i j hi hj hij
  have a2 := h2 i j hi hj hij
  unfold Nm at a1
  unfold LtK at a2 ⊢
  omega
theorem totK_of {a b : List MkS} (ha : GoodK a) (hb : GoodK b) (ho : ¬ OddK a b) : TotK (a ++ b) := by
  have key : ∀ x y : MkS, (Nm x y → x = y) → x = y ∨ LtK x y ∨ LtK y x := fun x y h => by
    by_cases hn : Nm x y
    · exact .inl (h hn)
    · unfold Nm at hn; unfold LtK; omega
  intro x hx y hy
  refine key x y fun hn => ?_
  rcases List.mem_append.1 hx with h1 | h1 <;> rcases List.mem_append.1 hy with h2 | h2
  · exact ha.nm h1 h2 hn
  · exact Classical.byContradiction fun h => ho ⟨x, h1, y, h2, ⟨hn.1.symm, hn.2.symm⟩, h⟩
  · exact Classical.byContradiction fun h => ho ⟨y, h2, x, h1, hn, fun e => h e.symm⟩
  · exact hb.nm h1 h2 hn
def OddL (a b : List MgS) : Prop := ∃ (i : Nat) (g h : MgS), a[i]? = some g ∧ b[i]? = some h ∧ OddK g.marks h.marks
def JoinOK (m : ModS) (a : List MgS) (ac : List Int) (b : List MgS) (bc : List Int) : Prop := ValL (mrgF m) a ∧ ValL (mrgF m) b ∧ AlikeC [ac, bc] ∧ ¬ OddL a b
noncomputable def joinL (ts : List TblS) (a : List MgS) (ac : List Int) (b : List MgS) (bc : List Int) : List MgS := (ts.zip (a.zip b)).map fun p => jnG p.1 p.2.1 ac p.2.2 bc
noncomputable def joinQ (m : ModS) (a : List MgS) (ac : List Int) (b : List MgS) (bc : List Int) : Int × List MgS := @ite _ (JoinOK m a ac b bc) (Classical.propDecidable _) (0, joinL (mrgF m) a ac b bc) (1, [])
theorem joinQ_ok {m : ModS} {a b : List MgS} {ac bc : List Int} (h : JoinOK m a ac b bc) : joinQ m a ac b bc = (0, joinL (mrgF m) a ac b bc) := @if_pos _ (Classical.propDecidable _) h _ _ _
theorem joinQ_bad {m : ModS} {a b : List MgS} {ac bc : List Int} (h : ¬ JoinOK m a ac b bc) : joinQ m a ac b bc = (1, []) := @if_neg _ (Classical.propDecidable _) h _ _ _
theorem joinL_succ {ts : List TblS} {a b : List MgS} {ac bc : List Int} {i : Nat} {t : TblS} {g h : MgS} (ht : ts[i]? = some t) (hg : a[i]? = some g) (hh : b[i]? = some h) :
    joinL (ts.take (i + 1)) (a.take (i + 1)) ac (b.take (i + 1)) bc = joinL (ts.take i) (a.take i) ac (b.take i) bc ++ [jnG t g ac h bc] := by
  have h1 := (List.getElem?_eq_some_iff.1 ht).1
  have h2 := (List.getElem?_eq_some_iff.1 hg).1
  have h3 := (List.getElem?_eq_some_iff.1 hh).1
  have e1 : (a.take i ++ [g]).zip (b.take i ++ [h]) = (a.take i).zip (b.take i) ++ [(g, h)] := by rw [List.zip_append (by simp; omega)]; rfl
  rw [List.take_add_one, List.take_add_one, List.take_add_one, ht, hg, hh, joinL, Option.toList_some, Option.toList_some, Option.toList_some, e1, List.zip_append (by simp; omega), List.map_append]
  rfl
theorem joinL_len (ts : List TblS) (a : List MgS) (ac : List Int) (b : List MgS) (bc : List Int) : (joinL ts a ac b bc).length = min ts.length (min a.length b.length) := by simp [joinL]
theorem jnG_len {t : TblS} {g h : MgS} {ac bc : List Int} (ht : TotK (g.marks ++ h.marks)) (h1 : g.marks.length ≤ 30) (h2 : h.marks.length ≤ 30) : (jnG t g ac h bc).marks.length ≤ 60 := by
  have a1 := (union_ex _ _ ht).2.2
  have a2 := (union_ex _ _ (totK_own ht bc ac)).2.2
  have a3 := ownF_len g.marks h.marks bc
  have a4 := ownF_len h.marks g.marks ac
  unfold jnG
  split
  · simp; omega
  · split <;> (simp only; omega)
theorem joinC_ne {ac bc : List Int} (h : AlikeC [ac, bc]) : joinC ac bc ≠ [] := by
  have h2 := (alike2 ac bc).1 h
  have h3 := h2.1.2
  have h4 := h2.2.1.2
  intro e
  simp [joinC, zipC] at e
  rcases e with rfl | rfl
  · simp at h3
  · simp at h4
set_option maxHeartbeats 4000000 in
theorem joinP_o (m : ModS) (a b : List MgS) (ac bc : List Int) (hm : MOK m) (hok : JoinOK m a ac b bc) (hka : FewK a) (hkb : FewK b) :
    CallA Tryz.prog 33 [mdl m, mgs a, ints ac, mgs b, ints bc] [] fun r o => ∃ v, r = .tup [.ow v, it 0] ∧ o = [arrR v 44 3 (joinL (mrgF m) a ac b bc) mgC] := by
  obtain ⟨h1, h2, h3, h4⟩ := hok
  have hva := validM_p m a hm.lay
  have hvb := validM_p m b hm.lay
  have hjn := join_z h3
  have hne := joinC_ne h3
  have hce := cells_p m hm.lay
  have hla := h1.1
  have hlb := h2.1
  have hm20 := hm.mrg
  refine CallA.of pg ord33 Tryz.func33 rfl Tryz.ntmps33 Tryz.results33 rfl fun h0 G0 O0 => ?_
  repeat' (first | refine Sp.h ?_ | refine Lk.r rfl ?_ | refine Rf.mk rfl ?_ | (apply Bd.t; (focus (first | assumption | omega | rfl))) | (refine All.mk ?_; intro _) | (apply TkB.r; (focus (repeat (first | exact Take.here | apply Take.there)))) | refine Ch.l ⟨rfl, rfl⟩ ?_ | (apply Fk.r; (focus (repeat (first | exact FillA.nil | (apply FillA.agg; (focus rfl); (focus rfl); (focus (repeat (first | exact SetAs.z | (apply SetAs.c; (focus (repeat (first | assumption | exact SetA.z | apply SetA.s)))))))) | (apply FillA.one; (focus rfl); (focus infer_instance); (focus (repeat (first | assumption | exact SetA.z | apply SetA.s)))))))) | refine Rf.mk ⟨rfl, rfl, rfl⟩ ?_ | fail | (apply Cl.p (hva); (focus ((repeat' (first | exact Lend.nil | apply Lend.keep | fail)); done))) | (apply Cl.p (hvb); (focus ((repeat' (first | exact Lend.nil | apply Lend.keep | fail)); done))))
  (apply Cl.fz; (focus repeat' (first | exact FZ.nil | (apply FZ.fz; (focus (repeat (first | exact Take.here | apply Take.there))); (focus first | omega | decide | exact Nat.le_of_ble_eq_true rfl | (simp <;> omega))) | apply FZ.agg | apply FZ.same)))
  repeat' (first | refine Sp.h ?_ | refine Lk.r rfl ?_ | refine Rf.mk rfl ?_ | (apply Bd.t; (focus (first | assumption | omega | rfl))) | (refine Bd.mk ?_ ?_ <;> intro _) | (refine Im.mk ?_; intro _) | (refine All.mk ?_; intro _) | (apply Nm.r; (focus repeat (first | apply LN.cons | exact LN.nil))) | fail | (apply Cl.p (hjn); (focus repeat' (first | exact Lend.nil | (apply Lend.mp; (focus rfl)) | fail))))
  · rename_i hbn hbt
    rw [hbn hne] at hbt; cases hbt
  have hgood : ∀ (i : Nat) g h t, a[i]? = some g → b[i]? = some h → (mrgF m)[i]? = some t → GoodK g.marks ∧ GoodK h.marks ∧ g.marks.length ≤ 30 ∧ h.marks.length ≤ 30 ∧ ¬ OddK g.marks h.marks := fun i g h t hg hh ht =>
    ⟨(h1.2 i t g ht hg).good, (h2.2 i t h ht hh).good, hka.1 g (List.mem_of_getElem? hg), hkb.1 h (List.mem_of_getElem? hh), fun ho => h4 ⟨i, g, h, hg, hh, ho⟩⟩
  rename_i b5 _ _ _ _ _
  refine CA.loop (fun i : Nat => ⟨[(1, mgs a), (2, ints ac), (3, mgs b), (4, ints bc), (5, pm b5), (12, .val (.slice none 0 0)), (39, it (a.length : Nat)), (40, it i)], [mR b5 m]⟩) (fun i => i ≤ a.length) (fun i => a.length - i) 0 ⟨by (repeat (first | exact trivial | refine ⟨rfl, ?_⟩)), by (repeat (first | exact Subl.nil | refine Subl.cons (by (repeat (first | exact Take.here | apply Take.there))) ?_))⟩ (Nat.zero_le _) ?_
  intro i hi
  by_cases hin : i < a.length
  · obtain ⟨g, hg⟩ := get_of hin
    obtain ⟨h, hh⟩ := get_of (l := b) (i := i) (by omega)
    obtain ⟨t, ht⟩ := get_of (l := mrgF m) (i := i) (by omega)
    obtain ⟨gg, gh, lg, lh, hno⟩ := hgood i g h t hg hh ht
    repeat' (first | refine Sp.h ?_ | refine Lk.r rfl ?_ | refine Rf.mk rfl ?_ | (apply Bd.t; (focus (first | assumption | omega | rfl))) | (refine Im.mk ?_; intro _) | (apply Ix.q; (focus exact rfl); (focus assumption)) | fail)
    refine CA.loop (fun n : Nat => ⟨[(1, mgs a), (2, ints ac), (3, mgs b), (4, ints bc), (5, pm b5), (12, .val (.slice none 0 0)), (13, it i), (39, it (a.length : Nat)), (40, it i), (47, mks g.marks), (48, it (g.marks.length : Nat)), (49, it n)], [mR b5 m]⟩) (fun n => n ≤ g.marks.length) (fun n => g.marks.length - n) 0 ⟨by (repeat (first | exact trivial | refine ⟨rfl, ?_⟩)), by (repeat (first | exact Subl.nil | refine Subl.cons (by (repeat (first | exact Take.here | apply Take.there))) ?_))⟩ (Nat.zero_le _) ?_
    intro n hn
    by_cases hnn : n < g.marks.length
    · obtain ⟨x, hx⟩ := get_of hnn
      have hfs := findS_p h bc x.rep x.num
      have hxm := List.mem_of_getElem? hx
      cases hfh : fndN h.marks x.rep x.num with
      | some y =>
        obtain ⟨hy, hyn⟩ := fndN_some hfh
        have hxy : x = y := Classical.byContradiction fun hne => hno ⟨x, hxm, y, hy, hyn, hne⟩
        subst hxy
        rw [hfh] at hfs
        have hv : [x.rep, x.num, x.time, x.val] = [x.rep, x.num, x.time, x.val] := rfl
        repeat' (first | refine Sp.h ?_ | refine Lk.r rfl ?_ | refine Rf.mk rfl ?_ | (apply Bd.t; (focus (first | assumption | omega | rfl))) | refine OpK.r rfl ?_ | (refine All.mk ?_; intro _) | (apply TkB.r; (focus (repeat (first | exact Take.here | apply Take.there)))) | (apply Ix.q; (focus exact rfl); (focus assumption)) | refine Ch.l ⟨rfl, rfl⟩ ?_ | (apply SetAsk.r; (focus (repeat (first | exact SetAs.z | (apply SetAs.c; (focus (repeat (first | assumption | exact SetA.z | apply SetA.s)))))))) | (apply Fk.r; (focus (repeat (first | exact FillA.nil | (apply FillA.agg; (focus rfl); (focus rfl); (focus (repeat (first | exact SetAs.z | (apply SetAs.c; (focus (repeat (first | assumption | exact SetA.z | apply SetA.s)))))))) | (apply FillA.one; (focus rfl); (focus infer_instance); (focus (repeat (first | assumption | exact SetA.z | apply SetA.s)))))))) | (apply Nm.r; (focus repeat (first | apply LN.cons | exact LN.nil))) | (apply Il.r; (focus repeat (first | apply ILit.cons | exact ILit.nil))) | (apply Kf.mk; (focus kernel_rfl)) | (apply CA.draw; (focus rfl); (focus kernel_rfl); (focus kernel_rfl); (focus repeat' (first | apply ON.one | exact ON.done | exact ON.none | apply ON.alt)); (focus rfl)) | exact trivial | apply RA'.both | (apply Ov.n; (focus first | omega | (simp <;> omega))) | fail | (apply Cl.p (dot_p x); (focus ((repeat' (first | exact Lend.nil | apply Lend.keep | fail)); done))) | (apply Cl.p (hfs); (focus ((repeat' (first | exact Lend.nil | apply Lend.keep | fail)); done))))
        all_goals exact PA.lp (n + 1) ⟨by (repeat (first | exact trivial | refine ⟨rfl, ?_⟩)), by (repeat (first | exact Subl.nil | refine Subl.cons (by (repeat (first | exact Take.here | apply Take.there))) ?_))⟩ ⟨hnn, by omega⟩
      | none =>
        rw [hfh] at hfs
        repeat' (first | refine Sp.h ?_ | refine Lk.r rfl ?_ | refine Rf.mk rfl ?_ | (apply Bd.t; (focus (first | assumption | omega | rfl))) | (apply Bd.f; (focus (first | assumption | omega | exact Bool.false_ne_true))) | refine OpK.r rfl ?_ | (refine All.mk ?_; intro _) | (apply TkB.r; (focus (repeat (first | exact Take.here | apply Take.there)))) | (apply Ix.q; (focus exact rfl); (focus assumption)) | refine Ch.l ⟨rfl, rfl⟩ ?_ | (apply SetAsk.r; (focus (repeat (first | exact SetAs.z | (apply SetAs.c; (focus (repeat (first | assumption | exact SetA.z | apply SetA.s)))))))) | (apply Fk.r; (focus (repeat (first | exact FillA.nil | (apply FillA.agg; (focus rfl); (focus rfl); (focus (repeat (first | exact SetAs.z | (apply SetAs.c; (focus (repeat (first | assumption | exact SetA.z | apply SetA.s)))))))) | (apply FillA.one; (focus rfl); (focus infer_instance); (focus (repeat (first | assumption | exact SetA.z | apply SetA.s)))))))) | (apply Nm.r; (focus repeat (first | apply LN.cons | exact LN.nil))) | (apply CA.draw; (focus rfl); (focus kernel_rfl); (focus kernel_rfl); (focus repeat' (first | apply ON.one | exact ON.done | exact ON.none | apply ON.alt)); (focus rfl)) | exact trivial | apply RA'.both | (apply Ov.n; (focus first | omega | (simp <;> omega))) | fail | (apply Cl.p (dot_p x); (focus ((repeat' (first | exact Lend.nil | apply Lend.keep | fail)); done))) | (apply Cl.p (hfs); (focus ((repeat' (first | exact Lend.nil | apply Lend.keep | fail)); done))))
        all_goals exact PA.lp (n + 1) ⟨by (repeat (first | exact trivial | refine ⟨rfl, ?_⟩)), by (repeat (first | exact Subl.nil | refine Subl.cons (by (repeat (first | exact Take.here | apply Take.there))) ?_))⟩ ⟨hnn, by omega⟩
    · have hne : n = g.marks.length := by omega
      subst hne
      repeat' (first | refine Sp.h ?_ | refine Lk.r rfl ?_ | refine Rf.mk rfl ?_ | (apply Bd.f; (focus (first | assumption | omega | exact Bool.false_ne_true))) | (apply Ov.n; (focus first | omega | (simp <;> omega))) | fail)
      exact PA.lp (i + 1) ⟨by (repeat (first | exact trivial | refine ⟨rfl, ?_⟩)), by (repeat (first | exact Subl.nil | refine Subl.cons (by (repeat (first | exact Take.here | apply Take.there))) ?_))⟩ ⟨hin, by omega⟩
  have hie : i = a.length := by omega
  subst hie
  repeat' (first | refine Sp.h ?_ | refine Lk.r rfl ?_ | refine Rf.mk rfl ?_ | (apply Bd.f; (focus (first | assumption | omega | exact Bool.false_ne_true))) | (refine Im.mk ?_; intro _) | (apply TkB.r; (focus (repeat (first | exact Take.here | apply Take.there)))) | refine Ch.l ⟨rfl, rfl⟩ ?_ | fail | (apply Cl.p (hce); (focus repeat' (first | exact Lend.nil | apply Lend.keep | fail))))
  refine CA.nilOwn 12 44 3 mgC rfl fun v => ?_
  refine CA.loop (fun x : Nat × Value => ⟨[(1, mgs a), (2, ints ac), (3, mgs b), (4, ints bc), (12, .ow x.2), (74, tbls (mrgF m)), (75, it ((mrgF m).length : Nat)), (76, it x.1)], [arrR x.2 44 3 (joinL ((mrgF m).take x.1) (a.take x.1) ac (b.take x.1) bc) mgC]⟩) (fun x => x.1 ≤ (mrgF m).length) (fun x => (mrgF m).length - x.1) (0, v) ⟨by (repeat (first | exact trivial | refine ⟨rfl, ?_⟩)), by (repeat (first | exact Subl.nil | refine Subl.cons (by (repeat (first | exact Take.here | apply Take.there))) ?_))⟩ (Nat.zero_le _) ?_
  rintro ⟨i, w⟩ hi
  simp only at hi
  simp only
  by_cases hin : i < (mrgF m).length
  · obtain ⟨t, ht⟩ := get_of hin
    obtain ⟨g, hg⟩ := get_of (l := a) (i := i) (by omega)
    obtain ⟨h, hh⟩ := get_of (l := b) (i := i) (by omega)
    obtain ⟨gg, gh, lg, lh, hno⟩ := hgood i g h t hg hh ht
    have hto := totK_of gg gh hno
    have hj := join_p t g h ac bc hto (by omega) (by omega)
    have hjl := jnG_len (t := t) (ac := ac) (bc := bc) hto lg lh
    have hsu := joinL_succ (ac := ac) (bc := bc) ht hg hh
    have hln := joinL_len ((mrgF m).take i) (a.take i) ac (b.take i) bc
    rw [List.length_take] at hln
    repeat' (first | refine Sp.h ?_ | refine Lk.r rfl ?_ | refine Rf.mk rfl ?_ | (apply Bd.t; (focus (first | assumption | omega | rfl))) | (apply Bd.f; (focus (first | assumption | omega | exact Bool.false_ne_true))) | refine OpK.r rfl ?_ | (apply Om.mk; (focus first | omega | (simp <;> omega))) | (refine Im.mk ?_; intro _) | (refine All.mk ?_; intro _) | (apply TkA.r; (focus (repeat (first | exact Take.here | apply Take.there)))) | (apply TkB.r; (focus (repeat (first | exact Take.here | apply Take.there)))) | (apply Ix.q; (focus exact rfl); (focus assumption)) | refine Ce.r ?_ | refine Ch.l ⟨rfl, rfl⟩ ?_ | (apply SetAsk.r; (focus (repeat (first | exact SetAs.z | (apply SetAs.c; (focus (repeat (first | assumption | exact SetA.z | apply SetA.s)))))))) | (apply Fk.r; (focus (repeat (first | exact FillA.nil | (apply FillA.agg; (focus rfl); (focus rfl); (focus (repeat (first | exact SetAs.z | (apply SetAs.c; (focus (repeat (first | assumption | exact SetA.z | apply SetA.s)))))))) | (apply FillA.one; (focus rfl); (focus infer_instance); (focus (repeat (first | assumption | exact SetA.z | apply SetA.s)))))))) | (apply Nm.r; (focus repeat (first | apply LN.cons | exact LN.nil))) | refine Rf.mk ⟨rfl, rfl⟩ ?_ | refine Rf.mk ⟨rfl, rfl, rfl⟩ ?_ | (apply Mp.lit; (focus repeat (first | exact MpL.nil | (apply MpL.cons; (focus rfl)) | (apply MpL.inv; (focus repeat (first | apply LN.cons | exact LN.nil)); (focus infer_instance))))) | (apply CA.draw; (focus rfl); (focus kernel_rfl); (focus kernel_rfl); (focus repeat' (first | apply ON.one | exact ON.done | exact ON.none | apply ON.alt)); (focus rfl)) | exact trivial | apply RA'.both | (apply Ov.n; (focus first | omega | (simp <;> omega))) | fail | (apply Cl.p (hj); (focus repeat' (first | exact Lend.nil | apply Lend.keep | fail))))
    all_goals rw [← hsu]
    all_goals exact PA.lp (i + 1, _) ⟨by (repeat (first | exact trivial | refine ⟨rfl, ?_⟩)), by (repeat (first | exact Subl.nil | refine Subl.cons (by (repeat (first | exact Take.here | apply Take.there))) ?_))⟩ ⟨hin, by simp only; omega⟩
  · have hie : i = (mrgF m).length := by omega
    subst hie
    rw [List.take_length, List.take_of_length_le (l := a) (by omega), List.take_of_length_le (l := b) (by omega)]
    repeat' (first | refine Sp.h ?_ | refine Lk.r rfl ?_ | refine Rf.mk rfl ?_ | (apply Bd.f; (focus (first | assumption | omega | exact Bool.false_ne_true))) | (apply Nm.r; (focus repeat (first | apply LN.cons | exact LN.nil))) | fail)
    exact ⟨_, _, .tup (.same (.same (.nil (by (repeat (first | exact Subl.nil | refine Subl.cons (by (repeat (first | exact Take.here | apply Take.there))) ?_)))))), _, rfl, rfl⟩
end Go.Proofs.YtpgpdmmobblffaaGreat
namespace Go.Proofs.YtpgpdmmobblffaaGreat
open Go Go.CF
set_option maxRecDepth 20000
set_option maxHeartbeats 4000000 in
theorem joinP_e (m : ModS) (a b : List MgS) (ac bc : List Int) (hm : MOK m) (hno : ¬ JoinOK m a ac b bc) (hka : FewK a) :
    CallA Tryz.prog 33 [mdl m, mgs a, ints ac, mgs b, ints bc] [] fun r o => r = .tup [.val (.slice none 0 0), it 1] ∧ o = [] := by
  have hva := validM_p m a hm.lay
  have hvb := validM_p m b hm.lay
  by_cases h1 : ValL (mrgF m) a
  rotate_left
  · refine CallA.of pg ord33 Tryz.func33 rfl Tryz.ntmps33 Tryz.results33 rfl fun h0 G0 O0 => ?_
    repeat' (first | refine Sp.h ?_ | refine Lk.r rfl ?_ | refine Rf.mk rfl ?_ | (apply Bd.f; (focus (first | assumption | omega | exact Bool.false_ne_true))) | (refine All.mk ?_; intro _) | (apply TkB.r; (focus (repeat (first | exact Take.here | apply Take.there)))) | refine Ch.l ⟨rfl, rfl⟩ ?_ | (apply Nm.r; (focus repeat (first | apply LN.cons | exact LN.nil))) | fail | (apply Cl.p (hva); (focus ((repeat' (first | exact Lend.nil | apply Lend.keep | fail)); done))) | (apply Cl.p (hvb); (focus ((repeat' (first | fail)); done))))
    all_goals exact Fin.p rfl rfl
  by_cases h2 : ValL (mrgF m) b
  rotate_left
  · refine CallA.of pg ord33 Tryz.func33 rfl Tryz.ntmps33 Tryz.results33 rfl fun h0 G0 O0 => ?_
    repeat' (first | refine Sp.h ?_ | refine Lk.r rfl ?_ | refine Rf.mk rfl ?_ | (apply Bd.t; (focus (first | assumption | omega | rfl))) | (apply Bd.f; (focus (first | assumption | omega | exact Bool.false_ne_true))) | (refine All.mk ?_; intro _) | (apply TkB.r; (focus (repeat (first | exact Take.here | apply Take.there)))) | refine Ch.l ⟨rfl, rfl⟩ ?_ | (apply Nm.r; (focus repeat (first | apply LN.cons | exact LN.nil))) | fail | (apply Cl.p (hva); (focus ((repeat' (first | exact Lend.nil | apply Lend.keep | fail)); done))) | (apply Cl.p (hvb); (focus ((repeat' (first | exact Lend.nil | apply Lend.keep | fail)); done))))
    all_goals exact Fin.p rfl rfl
  by_cases h3 : AlikeC [ac, bc]
  rotate_left
  · have hjn := join_nil _ h3
    refine CallA.of pg ord33 Tryz.func33 rfl Tryz.ntmps33 Tryz.results33 rfl fun h0 G0 O0 => ?_
    repeat' (first | refine Sp.h ?_ | refine Lk.r rfl ?_ | refine Rf.mk rfl ?_ | (apply Bd.t; (focus (first | assumption | omega | rfl))) | (refine All.mk ?_; intro _) | (apply TkB.r; (focus (repeat (first | exact Take.here | apply Take.there)))) | refine Ch.l ⟨rfl, rfl⟩ ?_ | (apply Fk.r; (focus (repeat (first | exact FillA.nil | (apply FillA.agg; (focus rfl); (focus rfl); (focus (repeat (first | exact SetAs.z | (apply SetAs.c; (focus (repeat (first | assumption | exact SetA.z | apply SetA.s)))))))) | (apply FillA.one; (focus rfl); (focus infer_instance); (focus (repeat (first | assumption | exact SetA.z | apply SetA.s)))))))) | refine Rf.mk ⟨rfl, rfl, rfl⟩ ?_ | fail | (apply Cl.p (hva); (focus ((repeat' (first | exact Lend.nil | apply Lend.keep | fail)); done))) | (apply Cl.p (hvb); (focus ((repeat' (first | exact Lend.nil | apply Lend.keep | fail)); done))))
    (apply Cl.fz; (focus repeat' (first | exact FZ.nil | (apply FZ.fz; (focus (repeat (first | exact Take.here | apply Take.there))); (focus first | omega | decide | exact Nat.le_of_ble_eq_true rfl | (simp <;> omega))) | apply FZ.agg | apply FZ.same)))
    repeat' (first | refine Sp.h ?_ | refine Lk.r rfl ?_ | refine Rf.mk rfl ?_ | (apply Bd.t; (focus (first | assumption | omega | rfl))) | (apply Nm.r; (focus repeat (first | apply LN.cons | exact LN.nil))) | fail | (apply Cl.p (hjn); (focus repeat' (first | exact Lend.nil | (apply Lend.mp; (focus rfl)) | fail))))
    all_goals exact Fin.p rfl rfl
  have h4 : OddL a b := Classical.byContradiction fun h => hno ⟨h1, h2, h3, h⟩
  have hjn := join_z h3
  have hne := joinC_ne h3
  have hla := h1.1
  have hlb := h2.1
  have hm20 := hm.mrg
  refine CallA.of pg ord33 Tryz.func33 rfl Tryz.ntmps33 Tryz.results33 rfl fun h0 G0 O0 => ?_
  repeat' (first | refine Sp.h ?_ | refine Lk.r rfl ?_ | refine Rf.mk rfl ?_ | (apply Bd.t; (focus (first | assumption | omega | rfl))) | (refine All.mk ?_; intro _) | (apply TkB.r; (focus (repeat (first | exact Take.here | apply Take.there)))) | refine Ch.l ⟨rfl, rfl⟩ ?_ | (apply Fk.r; (focus (repeat (first | exact FillA.nil | (apply FillA.agg; (focus rfl); (focus rfl); (focus (repeat (first | exact SetAs.z | (apply SetAs.c; (focus (repeat (first | assumption | exact SetA.z | apply SetA.s)))))))) | (apply FillA.one; (focus rfl); (focus infer_instance); (focus (repeat (first | assumption | exact SetA.z | apply SetA.s)))))))) | refine Rf.mk ⟨rfl, rfl, rfl⟩ ?_ | fail | (apply Cl.p (hva); (focus ((repeat' (first | exact Lend.nil | apply Lend.keep | fail)); done))) | (apply Cl.p (hvb); (focus ((repeat' (first | exact Lend.nil | apply Lend.keep | fail)); done))))
  (apply Cl.fz; (focus repeat' (first | exact FZ.nil | (apply FZ.fz; (focus (repeat (first | exact Take.here | apply Take.there))); (focus first | omega | decide | exact Nat.le_of_ble_eq_true rfl | (simp <;> omega))) | apply FZ.agg | apply FZ.same)))
  repeat' (first | refine Sp.h ?_ | refine Lk.r rfl ?_ | refine Rf.mk rfl ?_ | (apply Bd.t; (focus (first | assumption | omega | rfl))) | (refine Bd.mk ?_ ?_ <;> intro _) | (refine Im.mk ?_; intro _) | (refine All.mk ?_; intro _) | (apply Nm.r; (focus repeat (first | apply LN.cons | exact LN.nil))) | fail | (apply Cl.p (hjn); (focus repeat' (first | exact Lend.nil | (apply Lend.mp; (focus rfl)) | fail))))
  · rename_i hbn hbt
    rw [hbn hne] at hbt; cases hbt
  have hgood : ∀ (i : Nat) g h t, a[i]? = some g → b[i]? = some h → (mrgF m)[i]? = some t → GoodK g.marks ∧ GoodK h.marks ∧ g.marks.length ≤ 30 := fun i g h t hg hh ht =>
    ⟨(h1.2 i t g ht hg).good, (h2.2 i t h ht hh).good, hka.1 g (List.mem_of_getElem? hg)⟩
  rename_i b5 _ _ _ _ _
  refine CA.loop (fun i : Nat => ⟨[(1, mgs a), (2, ints ac), (3, mgs b), (4, ints bc), (5, pm b5), (12, .val (.slice none 0 0)), (39, it (a.length : Nat)), (40, it i)], [mR b5 m]⟩) (fun i => i ≤ a.length ∧ ∀ (j : Nat) (g h : MgS), j < i → a[j]? = some g → b[j]? = some h → ¬ OddK g.marks h.marks) (fun i => a.length - i) 0 ⟨by (repeat (first | exact trivial | refine ⟨rfl, ?_⟩)), by (repeat (first | exact Subl.nil | refine Subl.cons (by (repeat (first | exact Take.here | apply Take.there))) ?_))⟩ ⟨Nat.zero_le _, fun j g h hj => by omega⟩ ?_
  rintro i ⟨hi, hal⟩
  by_cases hin : i < a.length
  · obtain ⟨g, hg⟩ := get_of hin
    obtain ⟨h, hh⟩ := get_of (l := b) (i := i) (by omega)
    obtain ⟨t, ht⟩ := get_of (l := mrgF m) (i := i) (by omega)
    obtain ⟨gg, gh, lg⟩ := hgood i g h t hg hh ht
    repeat' (first | refine Sp.h ?_ | refine Lk.r rfl ?_ | refine Rf.mk rfl ?_ | (apply Bd.t; (focus (first | assumption | omega | rfl))) | (refine Im.mk ?_; intro _) | (apply Ix.q; (focus exact rfl); (focus assumption)) | fail)
    refine CA.loop (fun n : Nat => ⟨[(1, mgs a), (2, ints ac), (3, mgs b), (4, ints bc), (5, pm b5), (12, .val (.slice none 0 0)), (13, it i), (39, it (a.length : Nat)), (40, it i), (47, mks g.marks), (48, it (g.marks.length : Nat)), (49, it n)], [mR b5 m]⟩) (fun n => n ≤ g.marks.length ∧ ∀ x ∈ g.marks.take n, ∀ y ∈ h.marks, Nm y x → x = y) (fun n => g.marks.length - n) 0 ⟨by (repeat (first | exact trivial | refine ⟨rfl, ?_⟩)), by (repeat (first | exact Subl.nil | refine Subl.cons (by (repeat (first | exact Take.here | apply Take.there))) ?_))⟩ ⟨Nat.zero_le _, by simp⟩ ?_
    rintro n ⟨hn, han⟩
    by_cases hnn : n < g.marks.length
    · obtain ⟨x, hx⟩ := get_of hnn
      have hfs := findS_p h bc x.rep x.num
      cases hfh : fndN h.marks x.rep x.num with
      | some y =>
        obtain ⟨hy, hyn⟩ := fndN_some hfh
        rw [hfh] at hfs
        by_cases hxy : x = y
        · subst hxy
          have hv : [x.rep, x.num, x.time, x.val] = [x.rep, x.num, x.time, x.val] := rfl
          repeat' (first | refine Sp.h ?_ | refine Lk.r rfl ?_ | refine Rf.mk rfl ?_ | (apply Bd.t; (focus (first | assumption | omega | rfl))) | refine OpK.r rfl ?_ | (refine All.mk ?_; intro _) | (apply TkB.r; (focus (repeat (first | exact Take.here | apply Take.there)))) | (apply Ix.q; (focus exact rfl); (focus assumption)) | refine Ch.l ⟨rfl, rfl⟩ ?_ | (apply SetAsk.r; (focus (repeat (first | exact SetAs.z | (apply SetAs.c; (focus (repeat (first | assumption | exact SetA.z | apply SetA.s)))))))) | (apply Fk.r; (focus (repeat (first | exact FillA.nil | (apply FillA.agg; (focus rfl); (focus rfl); (focus (repeat (first | exact SetAs.z | (apply SetAs.c; (focus (repeat (first | assumption | exact SetA.z | apply SetA.s)))))))) | (apply FillA.one; (focus rfl); (focus infer_instance); (focus (repeat (first | assumption | exact SetA.z | apply SetA.s)))))))) | (apply Nm.r; (focus repeat (first | apply LN.cons | exact LN.nil))) | (apply Il.r; (focus repeat (first | apply ILit.cons | exact ILit.nil))) | (apply Kf.mk; (focus kernel_rfl)) | (apply CA.draw; (focus rfl); (focus kernel_rfl); (focus kernel_rfl); (focus repeat' (first | apply ON.one | exact ON.done | exact ON.none | apply ON.alt)); (focus rfl)) | exact trivial | apply RA'.both | (apply Ov.n; (focus first | omega | (simp <;> omega))) | fail | (apply Cl.p (dot_p x); (focus ((repeat' (first | exact Lend.nil | apply Lend.keep | fail)); done))) | (apply Cl.p (hfs); (focus ((repeat' (first | exact Lend.nil | apply Lend.keep | fail)); done))))
          all_goals exact PA.lp (n + 1) ⟨by (repeat (first | exact trivial | refine ⟨rfl, ?_⟩)), by (repeat (first | exact Subl.nil | refine Subl.cons (by (repeat (first | exact Take.here | apply Take.there))) ?_))⟩ ⟨⟨hnn, all_succ hx han fun z hz hzn => gh.nm hy hz ⟨hzn.1.symm, hzn.2.symm⟩⟩, by omega⟩
        · have hv : ¬ [x.rep, x.num, x.time, x.val] = [y.rep, y.num, y.time, y.val] := fun h9 => hxy (by simp only [List.cons.injEq, and_true] at h9; exact mks_ext h9.1 h9.2.1 h9.2.2.1 h9.2.2.2)
          repeat' (first | refine Sp.h ?_ | refine Lk.r rfl ?_ | refine Rf.mk rfl ?_ | (apply Bd.t; (focus (first | assumption | omega | rfl))) | (apply Bd.f; (focus (first | assumption | omega | exact Bool.false_ne_true))) | refine OpK.r rfl ?_ | (refine All.mk ?_; intro _) | (apply TkB.r; (focus (repeat (first | exact Take.here | apply Take.there)))) | (apply Ix.q; (focus exact rfl); (focus assumption)) | refine Ch.l ⟨rfl, rfl⟩ ?_ | (apply SetAsk.r; (focus (repeat (first | exact SetAs.z | (apply SetAs.c; (focus (repeat (first | assumption | exact SetA.z | apply SetA.s)))))))) | (apply Fk.r; (focus (repeat (first | exact FillA.nil | (apply FillA.agg; (focus rfl); (focus rfl); (focus (repeat (first | exact SetAs.z | (apply SetAs.c; (focus (repeat (first | assumption | exact SetA.z | apply SetA.s)))))))) | (apply FillA.one; (focus rfl); (focus infer_instance); (focus (repeat (first | assumption | exact SetA.z | apply SetA.s)))))))) | (apply Nm.r; (focus repeat (first | apply LN.cons | exact LN.nil))) | (apply Il.r; (focus repeat (first | apply ILit.cons | exact ILit.nil))) | (apply Kf.mk; (focus kernel_rfl)) | (apply CA.draw; (focus rfl); (focus kernel_rfl); (focus kernel_rfl); (focus repeat' (first | apply ON.one | exact ON.done | exact ON.none | apply ON.alt)); (focus rfl)) | exact trivial | apply RA'.both | fail | (apply Cl.p (dot_p x); (focus ((repeat' (first | exact Lend.nil | apply Lend.keep | fail)); done))) | (apply Cl.p (hfs); (focus ((repeat' (first | exact Lend.nil | apply Lend.keep | fail)); done))))
          all_goals exact Fin.p rfl rfl
      | none =>
        rw [hfh] at hfs
        have hno : ¬ HasNm h.marks x := fun h9 => by have := fndN_has.2 h9; rw [hfh] at this; cases this
        repeat' (first | refine Sp.h ?_ | refine Lk.r rfl ?_ | refine Rf.mk rfl ?_ | (apply Bd.t; (focus (first | assumption | omega | rfl))) | (apply Bd.f; (focus (first | assumption | omega | exact Bool.false_ne_true))) | refine OpK.r rfl ?_ | (refine All.mk ?_; intro _) | (apply TkB.r; (focus (repeat (first | exact Take.here | apply Take.there)))) | (apply Ix.q; (focus exact rfl); (focus assumption)) | refine Ch.l ⟨rfl, rfl⟩ ?_ | (apply SetAsk.r; (focus (repeat (first | exact SetAs.z | (apply SetAs.c; (focus (repeat (first | assumption | exact SetA.z | apply SetA.s)))))))) | (apply Fk.r; (focus (repeat (first | exact FillA.nil | (apply FillA.agg; (focus rfl); (focus rfl); (focus (repeat (first | exact SetAs.z | (apply SetAs.c; (focus (repeat (first | assumption | exact SetA.z | apply SetA.s)))))))) | (apply FillA.one; (focus rfl); (focus infer_instance); (focus (repeat (first | assumption | exact SetA.z | apply SetA.s)))))))) | (apply Nm.r; (focus repeat (first | apply LN.cons | exact LN.nil))) | (apply CA.draw; (focus rfl); (focus kernel_rfl); (focus kernel_rfl); (focus repeat' (first | apply ON.one | exact ON.done | exact ON.none | apply ON.alt)); (focus rfl)) | exact trivial | apply RA'.both | (apply Ov.n; (focus first | omega | (simp <;> omega))) | fail | (apply Cl.p (dot_p x); (focus ((repeat' (first | exact Lend.nil | apply Lend.keep | fail)); done))) | (apply Cl.p (hfs); (focus ((repeat' (first | exact Lend.nil | apply Lend.keep | fail)); done))))
        all_goals exact PA.lp (n + 1) ⟨by (repeat (first | exact trivial | refine ⟨rfl, ?_⟩)), by (repeat (first | exact Subl.nil | refine Subl.cons (by (repeat (first | exact Take.here | apply Take.there))) ?_))⟩ ⟨⟨hnn, all_succ hx han fun z hz hzn => absurd ⟨z, hz, hzn⟩ hno⟩, by omega⟩
    · have hne : n = g.marks.length := by omega
      subst hne
      rw [List.take_length] at han
      repeat' (first | refine Sp.h ?_ | refine Lk.r rfl ?_ | refine Rf.mk rfl ?_ | (apply Bd.f; (focus (first | assumption | omega | exact Bool.false_ne_true))) | (apply Ov.n; (focus first | omega | (simp <;> omega))) | fail)
      refine PA.lp (i + 1) ⟨by (repeat (first | exact trivial | refine ⟨rfl, ?_⟩)), by (repeat (first | exact Subl.nil | refine Subl.cons (by (repeat (first | exact Take.here | apply Take.there))) ?_))⟩ ⟨⟨hin, fun j g' h' hj hg' hh' => ?_⟩, by omega⟩
      by_cases hji : j = i
      · subst hji
        rw [hg] at hg'; rw [hh] at hh'; cases hg'; cases hh'
        rintro ⟨x, hx, y, hy, hn, hne⟩
        exact hne (han x hx y hy hn)
      · exact hal j g' h' (by omega) hg' hh'
  · exfalso
    obtain ⟨j, g, h, hg, hh, ho⟩ := h4
    exact hal j g h (by have := (List.getElem?_eq_some_iff.1 hg).1; omega) hg hh ho
theorem joinL_at {ts : List TblS} {a b : List MgS} {ac bc : List Int} {i : Nat} {t : TblS} {g h : MgS} (ht : ts[i]? = some t) (hg : a[i]? = some g) (hh : b[i]? = some h) : (joinL ts a ac b bc)[i]? = some (jnG t g ac h bc) := by
  have e1 : (a.zip b)[i]? = some (g, h) := (List.getElem?_zip_eq_some (z := (g, h))).2 ⟨hg, hh⟩
  rw [joinL, List.getElem?_map, (List.getElem?_zip_eq_some (z := (t, (g, h)))).2 ⟨ht, e1⟩]; rfl
theorem joinP_p (m : ModS) (a b : List MgS) (ac bc : List Int) (hm : MOK m) (hka : FewK a) (hkb : FewK b) :
    CallP Tryz.prog 33 [mdl m, mgs a, ints ac, mgs b, ints bc] (resG (joinQ m a ac b bc)) := by
  by_cases hok : JoinOK m a ac b bc
  · rw [joinQ_ok hok]
    refine CallA.fzt (T := 44) (by have := hm.mrg; rw [joinL_len]; omega) (joinP_o m a b ac bc hm hok hka hkb)
  · rw [joinQ_bad hok]
    exact CallA.conv (a := .tup [.val (.slice none 0 0), it 1]) (.tup (.cons ALe.nil (.cons (ALe.refl _) .nil))) (joinP_e m a b ac bc hm hok hka)
end Go.Proofs.YtpgpdmmobblffaaGreat
namespace Go.CF
open Go
section
variable {k : List KI} {e : EA} {o : List Res} {Γ : Cx}
theorem CA.reword {α β : Type} {y : Code} {v : Value} {T sz : Nat} {l : List α} {f : α → List AV} {rest : List Res} (tk : Take o (arrR v T sz l f) rest) (m : List β) (g : β → List AV) (hl : l.length = m.length) (hr : ∀ (i : Nat) x y, l[i]? = some x → m[i]? = some y → RLe (f x) (g y)) (h : CA Γ k y e (arrR v T sz m g :: rest)) : CA Γ k y e o := by
  refine ⟨fun env hh G Os cn => ?_⟩
  obtain ⟨O, Os', cn2⟩ := cn.take tk
  obtain ⟨⟨ho, rows, hw, h8⟩, hrest⟩ := cn2.hp.own
  refine h.h env hh G (O :: Os') ⟨cn2.hp.perm ⟨⟨ho, rows, by rw [← hl]; exact hw, ⟨by rw [h8.len, hl], fun i r y g1 g2 => ?_, h8.sz⟩⟩, hrest⟩ (List.Perm.refl _), cn.env, cn.nf⟩
  have hi := (List.getElem?_eq_some_iff.1 g2).1
  have hx : l[i]? = some (l[i]'(by omega)) := List.getElem?_eq_getElem _
  have g3 := h8.row i r _ g1 hx
  exact ⟨(hr i _ y hx g2).rep g3.t, g3.one⟩
end
end Go.CF
namespace Go.Proofs.YtpgpdmmobblffaaGreat
open Go Go.CF
set_option maxRecDepth 20000
instance {p d : Bool} {l : List MkS} : Inv mgC [bl p, bl d, mks l] ⟨p, d, l⟩ := ⟨rfl⟩
theorem jn_marks {a b : List MkS} {ac bc : List Int} (ha : GoodK a) (hb : GoodK b) (ho : ¬ OddK a b) : bothL a ac b bc = unionF (ownF a b bc) (ownF b a ac) := by
  obtain ⟨h1, h2, -⟩ := union_ex _ _ (totK_own (totK_of ha hb ho) bc ac)
  refine canK_eq h1 fun x => (h2 x).trans ?_
  rw [ownF_mem, ownF_mem]
  unfold inA inB2
  constructor
  · rintro (h | ⟨h3, h4⟩)
    · exact .inl h
    · by_cases hn : HasNm a x
      · obtain ⟨y, hy, hyn⟩ := hn
        have : y = x := Classical.byContradiction fun hne => ho ⟨y, hy, x, h3, ⟨hyn.1.symm, hyn.2.symm⟩, hne⟩
        subst this
        exact .inl ⟨hy, .inl ⟨y, h3, rfl, rfl⟩⟩
      · exact .inr ⟨h3, hn, h4.resolve_left hn⟩
  · rintro (h | ⟨h3, h4, h5⟩)
    · exact .inl h
    · exact .inr ⟨h3, .inr h5⟩
theorem u00 : unionF [] [] = [] := canK_eq .nil (by simp)
theorem ux0 (x : MkS) : unionF [x] [] = [x] := canK_eq (by simp) (by simp)
theorem u0x (x : MkS) : unionF [] [x] = [x] := canK_eq (by simp) (by simp)
theorem uxx (x : MkS) : unionF [x] [x] = [x] := canK_eq (by simp) (by simp)
theorem uxy {x y : MkS} (h : LtK x y) : unionF [x] [y] = [x, y] := canK_eq (by simp [h]) (by simp)
theorem uyx {x y : MkS} (h : LtK y x) : unionF [x] [y] = [y, x] := canK_eq (by simp [h]) (by simp [or_comm])
set_option maxHeartbeats 8000000 in
theorem joinR_a (m : ModS) (a b : List MgS) (ac bc : List Int) (hm : MOK m) (hka : FewK a) (hkb : FewK b) (h1 : ValL (mrgF m) a) (h2 : ValL (mrgF m) b) (h3 : AlikeC [ac, bc]) :
    CallA Tryz.prog 34 [mdl m, mgs a, ints ac, mgs b, ints bc] [] fun r o => (¬ OddL a b ∧ ∃ v, r = .tup [.ow v, it 0] ∧ o = [arrR v 44 3 (joinL (mrgF m) a ac b bc) mgC]) ∨ (OddL a b ∧ r = .tup [.val (.slice none 0 0), it 1] ∧ o = []) := by
  have hva := validR34_p m a hm.lay
  have hvb := validR34_p m b hm.lay
  have hc1 := validR_p ac
  have hc2 := validR_p bc
  have hmg := merged32_p m hm.lay
  obtain ⟨v1, v2, v3⟩ := (alike2 ac bc).1 h3
  have hla := h1.1
  have hlb := h2.1
  have hm20 := hm.mrg
  refine CallA.of pg ord34 Tryz.func34 rfl Tryz.ntmps34 Tryz.results34 rfl fun h0 G0 O0 => ?_
  repeat' (first | refine Sp.h ?_ | refine Lk.r rfl ?_ | refine Rf.mk rfl ?_ | (apply Bd.t; (focus (first | assumption | omega | rfl))) | (refine Im.mk ?_; intro _) | (refine All.mk ?_; intro _) | (apply TkB.r; (focus (repeat (first | exact Take.here | apply Take.there)))) | refine Ch.l ⟨rfl, rfl⟩ ?_ | (apply Nm.r; (focus repeat (first | apply LN.cons | exact LN.nil))) | refine Rf.mk ⟨rfl, rfl, rfl⟩ ?_ | (apply Jx.r; (focus exact rfl); (focus first | omega | (simp; done) | (simp; omega))) | fail | (apply Cl.p (hva); (focus ((repeat' (first | exact Lend.nil | apply Lend.keep | fail)); done))) | (apply Cl.p (hvb); (focus ((repeat' (first | exact Lend.nil | apply Lend.keep | fail)); done))) | (apply Cl.p (hc1); (focus ((repeat' (first | exact Lend.nil | apply Lend.keep | fail)); done))) | (apply Cl.p (hc2); (focus ((repeat' (first | exact Lend.nil | apply Lend.keep | fail)); done))) | (apply Cl.p (hmg); (focus ((repeat' (first | exact Lend.nil | apply Lend.keep | fail)); done))))
  refine CF.MkS.r (fun _ : Unit => [bl false, bl false, .val (.slice none 0 0)]) () rfl ?_
  repeat' (first | refine Sp.h ?_ | refine Lk.r rfl ?_ | refine Rf.mk rfl ?_ | (refine All.mk ?_; intro _) | fail)
  rename_i v
  apply CA.reword (m := List.replicate (mrgF m).length mg0) (g := mgC)
  focus (repeat (first | exact Take.here | apply Take.there))
  focus simp
  focus (intro i x y _ hy; have : y = mg0 := (List.mem_replicate.1 (List.mem_of_getElem? hy)).2; subst this; exact .cons (ALe.refl _) (.cons (ALe.refl _) (.cons ALe.nil .nil)))
  obtain ⟨J, hJ⟩ : ∃ J, J = joinL (mrgF m) a ac b bc := ⟨_, rfl⟩
  have hJl : J.length = (mrgF m).length := by rw [hJ, joinL_len]; omega
  rw [← hJ]
  refine CA.loop (fun q : Nat × List MgS × Bool => ⟨[(1, mgs a), (2, ints ac), (3, mgs b), (4, ints bc), (12, tbls (mrgF m)), (13, .ow v), (14, bl q.2.2), (15, it q.1)], [arrR v 44 3 q.2.1 mgC]⟩)
    (fun q => q.2.2 = false ∧ q.1 ≤ (mrgF m).length ∧ q.2.1.length = (mrgF m).length ∧ q.2.1.take q.1 = J.take q.1 ∧ ∀ (j : Nat) (g h : MgS), j < q.1 → a[j]? = some g → b[j]? = some h → ¬ OddK g.marks h.marks) (fun q => (mrgF m).length - q.1) (0, List.replicate (mrgF m).length mg0, false) ⟨by (repeat (first | exact trivial | refine ⟨rfl, ?_⟩)), by (repeat (first | exact Subl.nil | refine Subl.cons (by (repeat (first | exact Take.here | apply Take.there))) ?_))⟩ ⟨rfl, Nat.zero_le _, by simp, by simp, fun j g h hj => absurd hj (by simp)⟩ ?_
  rintro ⟨i, D, lg⟩ ⟨hlg, hi, hDl, hDt, hal⟩
  simp only at hlg hi hDl hDt hal
  subst hlg
  simp only
  by_cases hin : i < (mrgF m).length
  · obtain ⟨g, hg⟩ := get_of (l := a) (i := i) (by omega)
    obtain ⟨h, hh⟩ := get_of (l := b) (i := i) (by omega)
    obtain ⟨t, ht⟩ := get_of hin
    have vg := h1.2 i t g ht hg
    have vh := h2.2 i t h ht hh
    have gg := vg.good
    have gh := vh.good
    have lg := hka.1 g (List.mem_of_getElem? hg)
    have lh := hkb.1 h (List.mem_of_getElem? hh)
    have hbo := both_p g.marks h.marks ac bc gg gh (by omega) (by omega)
    by_cases hod : OddK g.marks h.marks
    · rw [decide_eq_true hod] at hbo
      repeat' (first | refine Sp.h ?_ | refine Lk.r rfl ?_ | refine Rf.mk rfl ?_ | (apply Bd.t; (focus (first | assumption | omega | rfl))) | refine OpK.r rfl ?_ | (refine Im.mk ?_; intro _) | (apply Ix.q; (focus exact rfl); (focus assumption)) | (apply Nm.r; (focus repeat (first | apply LN.cons | exact LN.nil))) | (apply CA.draw; (focus rfl); (focus kernel_rfl); (focus kernel_rfl); (focus repeat' (first | apply ON.one | exact ON.done | exact ON.none | apply ON.alt)); (focus rfl)) | fail | (apply Cl.p (hbo); (focus repeat' (first | exact Lend.nil | apply Lend.keep | fail))))
      exact ⟨_, _, .tup (.same (.same (.nil (by (repeat (first | exact Subl.nil | refine Subl.cons (by (repeat (first | exact Take.here | apply Take.there))) ?_)))))), .inr ⟨⟨i, g, h, hg, hh, hod⟩, rfl, rfl⟩⟩
    have hto := totK_of gg gh hod
    have hjl := jnG_len (t := t) (ac := ac) (bc := bc) hto lg lh
    rw [decide_eq_false hod, jn_marks gg gh hod] at hbo
    obtain ⟨d, hd⟩ := get_of (l := D) (i := i) (by omega)
    obtain ⟨D2, hD2⟩ : ∃ D2, D2 = D.set i (jnG t g ac h bc) := ⟨_, rfl⟩
    have hJi : J[i]? = some (jnG t g ac h bc) := by rw [hJ]; exact joinL_at ht hg hh
    have q1 : D2.length = (mrgF m).length := by rw [hD2, List.length_set]; exact hDl
    have q2 : D2.take (i + 1) = J.take (i + 1) := by
      rw [List.take_add_one, List.take_add_one, hJi, hD2, List.getElem?_set, if_pos rfl, if_pos (by omega), List.take_set_of_le (Nat.le_refl _), hDt]
    have q3 : ∀ (j : Nat) (g h : MgS), j < i + 1 → a[j]? = some g → b[j]? = some h → ¬ OddK g.marks h.marks := fun j g' h' hj hg' hh' => by
      by_cases hji : j = i
      · subst hji
        rw [hg] at hg'; rw [hh] at hh'; cases hg'; cases hh'
        exact hod
      · exact hal j g' h' (by omega) hg' hh'
    have q4 : i + 1 ≤ (mrgF m).length ∧ D2.length = (mrgF m).length ∧ D2.take (i + 1) = J.take (i + 1) ∧ ∀ (j : Nat) (g h : MgS), j < i + 1 → a[j]? = some g → b[j]? = some h → ¬ OddK g.marks h.marks := ⟨hin, q1, q2, q3⟩
    obtain ⟨⟨a1, a2, a3, a4⟩, -⟩ := vg
    obtain ⟨⟨b1, b2, b3, b4⟩, -⟩ := vh
    have hxs : ∀ z : MgS, (D.set i z)[i]? = some z := fun z => by rw [List.getElem?_set, if_pos rfl, if_pos (by omega)]
    have k2 := kindM hm.lay t (List.mem_of_getElem? ht)
    by_cases k4 : t.kind = 4
    · have e1 : ¬ g.put = true := fun h => a2 ⟨h, .inl k4⟩
      have e2 : ¬ h.put = true := fun h => b2 ⟨h, .inl k4⟩
      have e3 : ¬ g.drop = true := fun h => by have := a1 h; omega
      have e4 : ¬ h.drop = true := fun h => by have := b1 h; omega
      have he : ∀ l, (unionF g.marks h.marks).drop ((unionF g.marks h.marks).length - 1) = l → jnG t g ac h bc = ⟨false, false, l⟩ := fun l h => by rw [jnG, if_pos k4, h]
      have n1 : g.marks.length ≤ 1 := by omega
      have n2 : h.marks.length ≤ 1 := by omega
      have sh : ∀ l : List MkS, l.length = 1 → ∃ x, l = [x] ∧ l[0]? = some x := fun l hl => by
        obtain ⟨x, rfl⟩ := List.length_eq_one_iff.1 hl
        exact ⟨x, rfl, rfl⟩
      by_cases z1 : g.marks.length = 0
      · have s1 : g.marks = [] := List.eq_nil_of_length_eq_zero z1
        have he := he h.marks (by
          rw [s1]
          by_cases z2 : h.marks.length = 0
          · rw [List.eq_nil_of_length_eq_zero z2, u00]; rfl
          · obtain ⟨y, hy, -⟩ := sh h.marks (by omega)
            rw [hy, u0x]; rfl)
        rw [he] at hD2
        repeat' (first | refine Sp.h ?_ | refine Lk.r rfl ?_ | refine Rf.mk rfl ?_ | (apply Bd.t; (focus (first | assumption | omega | rfl))) | (apply Bd.f; (focus (first | assumption | omega | exact Bool.false_ne_true))) | refine OpK.r rfl ?_ | (refine Im.mk ?_; intro _) | (apply TkA.r; (focus (repeat (first | exact Take.here | apply Take.there)))) | (apply Ix.q; (focus exact rfl); (focus assumption)) | (apply At.r; (focus assumption)) | (apply SetAsk.r; (focus (repeat (first | exact SetAs.z | (apply SetAs.c; (focus (repeat (first | assumption | exact SetA.z | apply SetA.s)))))))) | (apply Fk.r; (focus (repeat (first | exact FillA.nil | (apply FillA.agg; (focus rfl); (focus rfl); (focus (repeat (first | exact SetAs.z | (apply SetAs.c; (focus (repeat (first | assumption | exact SetA.z | apply SetA.s)))))))) | (apply FillA.one; (focus rfl); (focus infer_instance); (focus (repeat (first | assumption | exact SetA.z | apply SetA.s)))))))) | (apply Up.inv; (focus repeat (first | apply LN.cons | exact LN.nil)); (focus infer_instance)) | (apply CA.draw; (focus rfl); (focus kernel_rfl); (focus kernel_rfl); (focus repeat' (first | apply ON.one | exact ON.done | exact ON.none | apply ON.alt)); (focus rfl)) | (apply Ov.n; (focus first | omega | (simp <;> omega))) | fail | (apply Cl.p (hbo); (focus repeat' (first | exact Lend.nil | apply Lend.keep | fail))))
        all_goals rw [← hD2]
        all_goals exact PA.lp (i + 1, D2, _) ⟨by (repeat (first | exact trivial | refine ⟨rfl, ?_⟩)), by (repeat (first | exact Subl.nil | refine Subl.cons (by (repeat (first | exact Take.here | apply Take.there))) ?_))⟩ ⟨⟨decide_eq_false (by omega), q4⟩, by simp only; omega⟩
      · obtain ⟨x, hx, hx0⟩ := sh g.marks (by omega)
        by_cases z2 : h.marks.length = 0
        · have he := he g.marks (by rw [List.eq_nil_of_length_eq_zero z2, hx, ux0]; rfl)
          rw [he] at hD2
          repeat' (first | refine Sp.h ?_ | refine Lk.r rfl ?_ | refine Rf.mk rfl ?_ | (apply Bd.t; (focus (first | assumption | omega | rfl))) | (apply Bd.f; (focus (first | assumption | omega | exact Bool.false_ne_true))) | refine OpK.r rfl ?_ | (refine Im.mk ?_; intro _) | (apply TkA.r; (focus (repeat (first | exact Take.here | apply Take.there)))) | (apply Ix.q; (focus exact rfl); (focus assumption)) | (apply At.r; (focus assumption)) | (apply SetAsk.r; (focus (repeat (first | exact SetAs.z | (apply SetAs.c; (focus (repeat (first | assumption | exact SetA.z | apply SetA.s)))))))) | (apply Fk.r; (focus (repeat (first | exact FillA.nil | (apply FillA.agg; (focus rfl); (focus rfl); (focus (repeat (first | exact SetAs.z | (apply SetAs.c; (focus (repeat (first | assumption | exact SetA.z | apply SetA.s)))))))) | (apply FillA.one; (focus rfl); (focus infer_instance); (focus (repeat (first | assumption | exact SetA.z | apply SetA.s)))))))) | (apply Up.inv; (focus repeat (first | apply LN.cons | exact LN.nil)); (focus infer_instance)) | (apply CA.draw; (focus rfl); (focus kernel_rfl); (focus kernel_rfl); (focus repeat' (first | apply ON.one | exact ON.done | exact ON.none | apply ON.alt)); (focus rfl)) | (apply Ov.n; (focus first | omega | (simp <;> omega))) | fail | (apply Cl.p (hbo); (focus repeat' (first | exact Lend.nil | apply Lend.keep | fail))))
          all_goals rw [← hD2]
          all_goals exact PA.lp (i + 1, D2, _) ⟨by (repeat (first | exact trivial | refine ⟨rfl, ?_⟩)), by (repeat (first | exact Subl.nil | refine Subl.cons (by (repeat (first | exact Take.here | apply Take.there))) ?_))⟩ ⟨⟨decide_eq_false (by omega), q4⟩, by simp only; omega⟩
        · obtain ⟨y, hy, hy0⟩ := sh h.marks (by omega)
          by_cases hlt : LtK x y
          · have he := he h.marks (by rw [hx, hy, uxy hlt]; rfl)
            rw [he] at hD2
            repeat' (first | refine Sp.h ?_ | refine Lk.r rfl ?_ | refine Rf.mk rfl ?_ | (apply Bd.t; (focus (first | assumption | omega | rfl))) | (apply Bd.f; (focus (first | assumption | omega | exact Bool.false_ne_true))) | refine OpK.r rfl ?_ | (refine Im.mk ?_; intro _) | (apply TkA.r; (focus (repeat (first | exact Take.here | apply Take.there)))) | (apply Ix.q; (focus exact rfl); (focus assumption)) | (apply At.r; (focus assumption)) | refine Ch.l ⟨rfl, rfl⟩ ?_ | (apply SetAsk.r; (focus (repeat (first | exact SetAs.z | (apply SetAs.c; (focus (repeat (first | assumption | exact SetA.z | apply SetA.s)))))))) | (apply Fk.r; (focus (repeat (first | exact FillA.nil | (apply FillA.agg; (focus rfl); (focus rfl); (focus (repeat (first | exact SetAs.z | (apply SetAs.c; (focus (repeat (first | assumption | exact SetA.z | apply SetA.s)))))))) | (apply FillA.one; (focus rfl); (focus infer_instance); (focus (repeat (first | assumption | exact SetA.z | apply SetA.s)))))))) | (apply Up.inv; (focus repeat (first | apply LN.cons | exact LN.nil)); (focus infer_instance)) | (apply CA.draw; (focus rfl); (focus kernel_rfl); (focus kernel_rfl); (focus repeat' (first | apply ON.one | exact ON.done | exact ON.none | apply ON.alt)); (focus rfl)) | (apply Ov.n; (focus first | omega | (simp <;> omega))) | fail | (apply Cl.p (hbo); (focus repeat' (first | exact Lend.nil | apply Lend.keep | fail))) | (apply Cl.p (less34_p _ _); (focus repeat' (first | exact Lend.nil | apply Lend.keep | fail))))
            all_goals rw [← hD2]
            all_goals exact PA.lp (i + 1, D2, _) ⟨by (repeat (first | exact trivial | refine ⟨rfl, ?_⟩)), by (repeat (first | exact Subl.nil | refine Subl.cons (by (repeat (first | exact Take.here | apply Take.there))) ?_))⟩ ⟨⟨decide_eq_false (by omega), q4⟩, by simp only; omega⟩
          · have he := he g.marks (by
              rcases hto x (by rw [hx]; simp) y (by rw [hy]; simp) with h9 | h9 | h9
              · rw [hx, hy, ← h9, uxx]; rfl
              · exact absurd h9 hlt
              · rw [hx, hy, uyx h9]; rfl)
            rw [he] at hD2
            repeat' (first | refine Sp.h ?_ | refine Lk.r rfl ?_ | refine Rf.mk rfl ?_ | (apply Bd.t; (focus (first | assumption | omega | rfl))) | (apply Bd.f; (focus (first | assumption | omega | exact Bool.false_ne_true))) | refine OpK.r rfl ?_ | (refine Im.mk ?_; intro _) | (apply TkA.r; (focus (repeat (first | exact Take.here | apply Take.there)))) | (apply Ix.q; (focus exact rfl); (focus assumption)) | (apply At.r; (focus assumption)) | refine Ch.l ⟨rfl, rfl⟩ ?_ | (apply SetAsk.r; (focus (repeat (first | exact SetAs.z | (apply SetAs.c; (focus (repeat (first | assumption | exact SetA.z | apply SetA.s)))))))) | (apply Fk.r; (focus (repeat (first | exact FillA.nil | (apply FillA.agg; (focus rfl); (focus rfl); (focus (repeat (first | exact SetAs.z | (apply SetAs.c; (focus (repeat (first | assumption | exact SetA.z | apply SetA.s)))))))) | (apply FillA.one; (focus rfl); (focus infer_instance); (focus (repeat (first | assumption | exact SetA.z | apply SetA.s)))))))) | (apply Up.inv; (focus repeat (first | apply LN.cons | exact LN.nil)); (focus infer_instance)) | (apply CA.draw; (focus rfl); (focus kernel_rfl); (focus kernel_rfl); (focus repeat' (first | apply ON.one | exact ON.done | exact ON.none | apply ON.alt)); (focus rfl)) | (apply Ov.n; (focus first | omega | (simp <;> omega))) | fail | (apply Cl.p (hbo); (focus repeat' (first | exact Lend.nil | apply Lend.keep | fail))) | (apply Cl.p (less34_p _ _); (focus repeat' (first | exact Lend.nil | apply Lend.keep | fail))))
            all_goals rw [← hD2]
            all_goals exact PA.lp (i + 1, D2, _) ⟨by (repeat (first | exact trivial | refine ⟨rfl, ?_⟩)), by (repeat (first | exact Subl.nil | refine Subl.cons (by (repeat (first | exact Take.here | apply Take.there))) ?_))⟩ ⟨⟨decide_eq_false (by omega), q4⟩, by simp only; omega⟩
    by_cases k3 : t.kind = 3
    · obtain ⟨U, hU⟩ : ∃ U, U = unionF (ownF g.marks h.marks bc) (ownF h.marks g.marks ac) := ⟨_, rfl⟩
      have he : jnG t g ac h bc = ⟨g.put || h.put, g.drop && h.drop, U⟩ := by rw [jnG, if_neg k4, if_pos k3, hU]
      rw [he] at hD2 hjl
      rw [← hU] at hbo
      simp only at hjl
      by_cases p1 : g.put = true <;> by_cases p2 : g.drop = true
      · rw [p1, p2, Bool.true_or, Bool.true_and] at hD2
        have hxs := hxs ⟨h.put, h.drop, U⟩
        repeat' (first | refine Sp.h ?_ | refine Lk.r rfl ?_ | refine Rf.mk rfl ?_ | (apply Bd.t; (focus (first | assumption | omega | rfl))) | (apply Bd.f; (focus (first | assumption | omega | exact Bool.false_ne_true))) | refine OpK.r rfl ?_ | (refine Im.mk ?_; intro _) | (apply TkA.r; (focus (repeat (first | exact Take.here | apply Take.there)))) | (apply Ix.q; (focus exact rfl); (focus assumption)) | (apply At.r; (focus assumption)) | (apply SetAk.r; (focus (repeat (first | assumption | exact SetA.z | apply SetA.s)))) | (apply SetAsk.r; (focus (repeat (first | exact SetAs.z | (apply SetAs.c; (focus (repeat (first | assumption | exact SetA.z | apply SetA.s)))))))) | (apply Fk.r; (focus (repeat (first | exact FillA.nil | (apply FillA.agg; (focus rfl); (focus rfl); (focus (repeat (first | exact SetAs.z | (apply SetAs.c; (focus (repeat (first | assumption | exact SetA.z | apply SetA.s)))))))) | (apply FillA.one; (focus rfl); (focus infer_instance); (focus (repeat (first | assumption | exact SetA.z | apply SetA.s)))))))) | (apply Up.inv; (focus repeat (first | apply LN.cons | exact LN.nil)); (focus infer_instance)) | (apply CA.draw; (focus rfl); (focus kernel_rfl); (focus kernel_rfl); (focus repeat' (first | apply ON.one | exact ON.done | exact ON.none | apply ON.alt)); (focus rfl)) | (apply Ov.n; (focus first | omega | (simp <;> omega))) | fail | (apply Cl.p (hbo); (focus repeat' (first | exact Lend.nil | apply Lend.keep | fail))))
        all_goals rw [List.set_set, ← hD2]
        all_goals exact PA.lp (i + 1, D2, _) ⟨by (repeat (first | exact trivial | refine ⟨rfl, ?_⟩)), by (repeat (first | exact Subl.nil | refine Subl.cons (by (repeat (first | exact Take.here | apply Take.there))) ?_))⟩ ⟨⟨decide_eq_false (by omega), q4⟩, by simp only; omega⟩
      · rw [p1, Bool.eq_false_iff.2 p2, Bool.true_or, Bool.false_and] at hD2
        have hxs := hxs ⟨h.put, false, U⟩
        repeat' (first | refine Sp.h ?_ | refine Lk.r rfl ?_ | refine Rf.mk rfl ?_ | (apply Bd.t; (focus (first | assumption | omega | rfl))) | (apply Bd.f; (focus (first | assumption | omega | exact Bool.false_ne_true))) | refine OpK.r rfl ?_ | (refine Im.mk ?_; intro _) | (apply TkA.r; (focus (repeat (first | exact Take.here | apply Take.there)))) | (apply Ix.q; (focus exact rfl); (focus assumption)) | (apply At.r; (focus assumption)) | (apply SetAk.r; (focus (repeat (first | assumption | exact SetA.z | apply SetA.s)))) | (apply SetAsk.r; (focus (repeat (first | exact SetAs.z | (apply SetAs.c; (focus (repeat (first | assumption | exact SetA.z | apply SetA.s)))))))) | (apply Fk.r; (focus (repeat (first | exact FillA.nil | (apply FillA.agg; (focus rfl); (focus rfl); (focus (repeat (first | exact SetAs.z | (apply SetAs.c; (focus (repeat (first | assumption | exact SetA.z | apply SetA.s)))))))) | (apply FillA.one; (focus rfl); (focus infer_instance); (focus (repeat (first | assumption | exact SetA.z | apply SetA.s)))))))) | (apply Up.inv; (focus repeat (first | apply LN.cons | exact LN.nil)); (focus infer_instance)) | (apply CA.draw; (focus rfl); (focus kernel_rfl); (focus kernel_rfl); (focus repeat' (first | apply ON.one | exact ON.done | exact ON.none | apply ON.alt)); (focus rfl)) | (apply Ov.n; (focus first | omega | (simp <;> omega))) | fail | (apply Cl.p (hbo); (focus repeat' (first | exact Lend.nil | apply Lend.keep | fail))))
        all_goals rw [List.set_set, ← hD2]
        all_goals exact PA.lp (i + 1, D2, _) ⟨by (repeat (first | exact trivial | refine ⟨rfl, ?_⟩)), by (repeat (first | exact Subl.nil | refine Subl.cons (by (repeat (first | exact Take.here | apply Take.there))) ?_))⟩ ⟨⟨decide_eq_false (by omega), q4⟩, by simp only; omega⟩
      · rw [Bool.eq_false_iff.2 p1, p2, Bool.false_or, Bool.true_and] at hD2
        have hxs := hxs ⟨false, h.drop, U⟩
        repeat' (first | refine Sp.h ?_ | refine Lk.r rfl ?_ | refine Rf.mk rfl ?_ | (apply Bd.t; (focus (first | assumption | omega | rfl))) | (apply Bd.f; (focus (first | assumption | omega | exact Bool.false_ne_true))) | refine OpK.r rfl ?_ | (refine Im.mk ?_; intro _) | (apply TkA.r; (focus (repeat (first | exact Take.here | apply Take.there)))) | (apply Ix.q; (focus exact rfl); (focus assumption)) | (apply At.r; (focus assumption)) | (apply SetAk.r; (focus (repeat (first | assumption | exact SetA.z | apply SetA.s)))) | (apply SetAsk.r; (focus (repeat (first | exact SetAs.z | (apply SetAs.c; (focus (repeat (first | assumption | exact SetA.z | apply SetA.s)))))))) | (apply Fk.r; (focus (repeat (first | exact FillA.nil | (apply FillA.agg; (focus rfl); (focus rfl); (focus (repeat (first | exact SetAs.z | (apply SetAs.c; (focus (repeat (first | assumption | exact SetA.z | apply SetA.s)))))))) | (apply FillA.one; (focus rfl); (focus infer_instance); (focus (repeat (first | assumption | exact SetA.z | apply SetA.s)))))))) | (apply Up.inv; (focus repeat (first | apply LN.cons | exact LN.nil)); (focus infer_instance)) | (apply CA.draw; (focus rfl); (focus kernel_rfl); (focus kernel_rfl); (focus repeat' (first | apply ON.one | exact ON.done | exact ON.none | apply ON.alt)); (focus rfl)) | (apply Ov.n; (focus first | omega | (simp <;> omega))) | fail | (apply Cl.p (hbo); (focus repeat' (first | exact Lend.nil | apply Lend.keep | fail))))
        all_goals rw [List.set_set, ← hD2]
        all_goals exact PA.lp (i + 1, D2, _) ⟨by (repeat (first | exact trivial | refine ⟨rfl, ?_⟩)), by (repeat (first | exact Subl.nil | refine Subl.cons (by (repeat (first | exact Take.here | apply Take.there))) ?_))⟩ ⟨⟨decide_eq_false (by omega), q4⟩, by simp only; omega⟩
      · rw [Bool.eq_false_iff.2 p1, Bool.eq_false_iff.2 p2, Bool.false_or, Bool.false_and] at hD2
        have hxs := hxs ⟨false, false, U⟩
        repeat' (first | refine Sp.h ?_ | refine Lk.r rfl ?_ | refine Rf.mk rfl ?_ | (apply Bd.t; (focus (first | assumption | omega | rfl))) | (apply Bd.f; (focus (first | assumption | omega | exact Bool.false_ne_true))) | refine OpK.r rfl ?_ | (refine Im.mk ?_; intro _) | (apply TkA.r; (focus (repeat (first | exact Take.here | apply Take.there)))) | (apply Ix.q; (focus exact rfl); (focus assumption)) | (apply At.r; (focus assumption)) | (apply SetAk.r; (focus (repeat (first | assumption | exact SetA.z | apply SetA.s)))) | (apply SetAsk.r; (focus (repeat (first | exact SetAs.z | (apply SetAs.c; (focus (repeat (first | assumption | exact SetA.z | apply SetA.s)))))))) | (apply Fk.r; (focus (repeat (first | exact FillA.nil | (apply FillA.agg; (focus rfl); (focus rfl); (focus (repeat (first | exact SetAs.z | (apply SetAs.c; (focus (repeat (first | assumption | exact SetA.z | apply SetA.s)))))))) | (apply FillA.one; (focus rfl); (focus infer_instance); (focus (repeat (first | assumption | exact SetA.z | apply SetA.s)))))))) | (apply Up.inv; (focus repeat (first | apply LN.cons | exact LN.nil)); (focus infer_instance)) | (apply CA.draw; (focus rfl); (focus kernel_rfl); (focus kernel_rfl); (focus repeat' (first | apply ON.one | exact ON.done | exact ON.none | apply ON.alt)); (focus rfl)) | (apply Ov.n; (focus first | omega | (simp <;> omega))) | fail | (apply Cl.p (hbo); (focus repeat' (first | exact Lend.nil | apply Lend.keep | fail))))
        all_goals rw [List.set_set, ← hD2]
        all_goals exact PA.lp (i + 1, D2, _) ⟨by (repeat (first | exact trivial | refine ⟨rfl, ?_⟩)), by (repeat (first | exact Subl.nil | refine Subl.cons (by (repeat (first | exact Take.here | apply Take.there))) ?_))⟩ ⟨⟨decide_eq_false (by omega), q4⟩, by simp only; omega⟩
    · have e3 : ¬ g.drop = true := fun h => by have := a1 h; omega
      have he : jnG t g ac h bc = ⟨g.put && h.put, false, unionF (ownF g.marks h.marks bc) (ownF h.marks g.marks ac)⟩ := by rw [jnG, if_neg k4, if_neg k3]
      rw [he] at hD2 hjl
      simp only at hjl
      by_cases p1 : g.put = true
      · rw [p1, Bool.true_and] at hD2
        repeat' (first | refine Sp.h ?_ | refine Lk.r rfl ?_ | refine Rf.mk rfl ?_ | (apply Bd.t; (focus (first | assumption | omega | rfl))) | (apply Bd.f; (focus (first | assumption | omega | exact Bool.false_ne_true))) | refine OpK.r rfl ?_ | (refine Im.mk ?_; intro _) | (apply TkA.r; (focus (repeat (first | exact Take.here | apply Take.there)))) | (apply Ix.q; (focus exact rfl); (focus assumption)) | (apply At.r; (focus assumption)) | (apply SetAsk.r; (focus (repeat (first | exact SetAs.z | (apply SetAs.c; (focus (repeat (first | assumption | exact SetA.z | apply SetA.s)))))))) | (apply Fk.r; (focus (repeat (first | exact FillA.nil | (apply FillA.agg; (focus rfl); (focus rfl); (focus (repeat (first | exact SetAs.z | (apply SetAs.c; (focus (repeat (first | assumption | exact SetA.z | apply SetA.s)))))))) | (apply FillA.one; (focus rfl); (focus infer_instance); (focus (repeat (first | assumption | exact SetA.z | apply SetA.s)))))))) | (apply Up.inv; (focus repeat (first | apply LN.cons | exact LN.nil)); (focus infer_instance)) | (apply CA.draw; (focus rfl); (focus kernel_rfl); (focus kernel_rfl); (focus repeat' (first | apply ON.one | exact ON.done | exact ON.none | apply ON.alt)); (focus rfl)) | (apply Ov.n; (focus first | omega | (simp <;> omega))) | fail | (apply Cl.p (hbo); (focus repeat' (first | exact Lend.nil | apply Lend.keep | fail))))
        all_goals rw [← hD2]
        all_goals exact PA.lp (i + 1, D2, _) ⟨by (repeat (first | exact trivial | refine ⟨rfl, ?_⟩)), by (repeat (first | exact Subl.nil | refine Subl.cons (by (repeat (first | exact Take.here | apply Take.there))) ?_))⟩ ⟨⟨decide_eq_false (by omega), q4⟩, by simp only; omega⟩
      · rw [Bool.eq_false_iff.2 p1, Bool.false_and] at hD2
        repeat' (first | refine Sp.h ?_ | refine Lk.r rfl ?_ | refine Rf.mk rfl ?_ | (apply Bd.t; (focus (first | assumption | omega | rfl))) | (apply Bd.f; (focus (first | assumption | omega | exact Bool.false_ne_true))) | refine OpK.r rfl ?_ | (refine Im.mk ?_; intro _) | (apply TkA.r; (focus (repeat (first | exact Take.here | apply Take.there)))) | (apply Ix.q; (focus exact rfl); (focus assumption)) | (apply At.r; (focus assumption)) | (apply SetAsk.r; (focus (repeat (first | exact SetAs.z | (apply SetAs.c; (focus (repeat (first | assumption | exact SetA.z | apply SetA.s)))))))) | (apply Fk.r; (focus (repeat (first | exact FillA.nil | (apply FillA.agg; (focus rfl); (focus rfl); (focus (repeat (first | exact SetAs.z | (apply SetAs.c; (focus (repeat (first | assumption | exact SetA.z | apply SetA.s)))))))) | (apply FillA.one; (focus rfl); (focus infer_instance); (focus (repeat (first | assumption | exact SetA.z | apply SetA.s)))))))) | (apply Up.inv; (focus repeat (first | apply LN.cons | exact LN.nil)); (focus infer_instance)) | (apply CA.draw; (focus rfl); (focus kernel_rfl); (focus kernel_rfl); (focus repeat' (first | apply ON.one | exact ON.done | exact ON.none | apply ON.alt)); (focus rfl)) | (apply Ov.n; (focus first | omega | (simp <;> omega))) | fail | (apply Cl.p (hbo); (focus repeat' (first | exact Lend.nil | apply Lend.keep | fail))))
        all_goals rw [← hD2]
        all_goals exact PA.lp (i + 1, D2, _) ⟨by (repeat (first | exact trivial | refine ⟨rfl, ?_⟩)), by (repeat (first | exact Subl.nil | refine Subl.cons (by (repeat (first | exact Take.here | apply Take.there))) ?_))⟩ ⟨⟨decide_eq_false (by omega), q4⟩, by simp only; omega⟩
  · have hie : i = (mrgF m).length := by omega
    subst hie
    rw [List.take_of_length_le (by omega), List.take_of_length_le (by omega)] at hDt
    subst hDt
    repeat' (first | refine Sp.h ?_ | refine Lk.r rfl ?_ | refine Rf.mk rfl ?_ | (apply Bd.f; (focus (first | assumption | omega | exact Bool.false_ne_true))) | (refine Im.mk ?_; intro _) | (apply Nm.r; (focus repeat (first | apply LN.cons | exact LN.nil))) | fail)
    refine ⟨_, _, .tup (.same (.same (.nil (by (repeat (first | exact Subl.nil | refine Subl.cons (by (repeat (first | exact Take.here | apply Take.there))) ?_)))))), .inl ⟨?_, v, rfl, rfl⟩⟩
    rintro ⟨j, g, h, hg, hh, ho⟩
    exact hal j g h (by have := (List.getElem?_eq_some_iff.1 hg).1; omega) hg hh ho
theorem joinR_p (m : ModS) (a b : List MgS) (ac bc : List Int) (hm : MOK m) (hka : FewK a) (hkb : FewK b) :
    CallP Tryz.prog 34 [mdl m, mgs a, ints ac, mgs b, ints bc] (resG (joinQ m a ac b bc)) := by
  by_cases h1 : ValL (mrgF m) a ∧ ValL (mrgF m) b ∧ AlikeC [ac, bc]
  · obtain ⟨h1, h2, h3⟩ := h1
    have hc := joinR_a m a b ac bc hm hka hkb h1 h2 h3
    by_cases ho : OddL a b
    · rw [joinQ_bad (fun h => h.2.2.2 ho)]
      exact CallA.conv (a := .tup [.val (.slice none 0 0), it 1]) (.tup (.cons ALe.nil (.cons (ALe.refl _) .nil))) (hc.mono fun r o h => h.elim (fun h => absurd ho h.1) fun h => h.2)
    · rw [joinQ_ok ⟨h1, h2, h3, ho⟩]
      exact CallA.fzt (T := 44) (by have := hm.mrg; rw [joinL_len]; omega) (hc.mono fun r o h => h.elim (fun h => h.2) fun h => absurd h.1 ho)
  · rw [joinQ_bad (fun h => h1 ⟨h.1, h.2.1, h.2.2.1⟩)]
    refine CallA.conv (a := .tup [.val (.slice none 0 0), it 1]) (.tup (.cons ALe.nil (.cons (ALe.refl _) .nil))) ?_
    have hva := validR34_p m a hm.lay
    have hvb := validR34_p m b hm.lay
    have hc1 := validR_p ac
    have hc2 := validR_p bc
    by_cases g1 : ValL (mrgF m) a
    · by_cases g2 : ValL (mrgF m) b
      · have g3 : ¬ (ValC ac ∧ ValC bc ∧ ac.length = bc.length) := fun h => h1 ⟨g1, g2, (alike2 ac bc).2 h⟩
        by_cases g4 : ValC ac
        · by_cases g5 : ValC bc
          · have g6 : ac.length ≠ bc.length := fun h => g3 ⟨g4, g5, h⟩
            refine CallA.of pg ord34 Tryz.func34 rfl Tryz.ntmps34 Tryz.results34 rfl fun h0 G0 O0 => ?_
            repeat' (first | refine Sp.h ?_ | refine Lk.r rfl ?_ | refine Rf.mk rfl ?_ | (apply Bd.t; (focus (first | assumption | omega | rfl))) | (apply Bd.f; (focus (first | assumption | omega | exact Bool.false_ne_true))) | (refine Im.mk ?_; intro _) | (refine All.mk ?_; intro _) | (apply TkB.r; (focus (repeat (first | exact Take.here | apply Take.there)))) | refine Ch.l ⟨rfl, rfl⟩ ?_ | (apply Nm.r; (focus repeat (first | apply LN.cons | exact LN.nil))) | fail | (apply Cl.p (hva); (focus ((repeat' (first | exact Lend.nil | apply Lend.keep | fail)); done))) | (apply Cl.p (hvb); (focus ((repeat' (first | exact Lend.nil | apply Lend.keep | fail)); done))) | (apply Cl.p (hc1); (focus ((repeat' (first | exact Lend.nil | apply Lend.keep | fail)); done))) | (apply Cl.p (hc2); (focus ((repeat' (first | exact Lend.nil | apply Lend.keep | fail)); done))))
            all_goals exact Fin.p rfl rfl
          · refine CallA.of pg ord34 Tryz.func34 rfl Tryz.ntmps34 Tryz.results34 rfl fun h0 G0 O0 => ?_
            repeat' (first | refine Sp.h ?_ | refine Lk.r rfl ?_ | refine Rf.mk rfl ?_ | (apply Bd.t; (focus (first | assumption | omega | rfl))) | (apply Bd.f; (focus (first | assumption | omega | exact Bool.false_ne_true))) | (refine All.mk ?_; intro _) | (apply TkB.r; (focus (repeat (first | exact Take.here | apply Take.there)))) | refine Ch.l ⟨rfl, rfl⟩ ?_ | (apply Nm.r; (focus repeat (first | apply LN.cons | exact LN.nil))) | fail | (apply Cl.p (hva); (focus ((repeat' (first | exact Lend.nil | apply Lend.keep | fail)); done))) | (apply Cl.p (hvb); (focus ((repeat' (first | exact Lend.nil | apply Lend.keep | fail)); done))) | (apply Cl.p (hc1); (focus ((repeat' (first | exact Lend.nil | apply Lend.keep | fail)); done))) | (apply Cl.p (hc2); (focus ((repeat' (first | exact Lend.nil | apply Lend.keep | fail)); done))))
            all_goals exact Fin.p rfl rfl
        · refine CallA.of pg ord34 Tryz.func34 rfl Tryz.ntmps34 Tryz.results34 rfl fun h0 G0 O0 => ?_
          repeat' (first | refine Sp.h ?_ | refine Lk.r rfl ?_ | refine Rf.mk rfl ?_ | (apply Bd.t; (focus (first | assumption | omega | rfl))) | (apply Bd.f; (focus (first | assumption | omega | exact Bool.false_ne_true))) | (refine All.mk ?_; intro _) | (apply TkB.r; (focus (repeat (first | exact Take.here | apply Take.there)))) | refine Ch.l ⟨rfl, rfl⟩ ?_ | (apply Nm.r; (focus repeat (first | apply LN.cons | exact LN.nil))) | fail | (apply Cl.p (hva); (focus ((repeat' (first | exact Lend.nil | apply Lend.keep | fail)); done))) | (apply Cl.p (hvb); (focus ((repeat' (first | exact Lend.nil | apply Lend.keep | fail)); done))) | (apply Cl.p (hc1); (focus ((repeat' (first | exact Lend.nil | apply Lend.keep | fail)); done))) | (apply Cl.p (hc2); (focus ((repeat' (first | fail)); done))))
          all_goals exact Fin.p rfl rfl
      · refine CallA.of pg ord34 Tryz.func34 rfl Tryz.ntmps34 Tryz.results34 rfl fun h0 G0 O0 => ?_
        repeat' (first | refine Sp.h ?_ | refine Lk.r rfl ?_ | refine Rf.mk rfl ?_ | (apply Bd.t; (focus (first | assumption | omega | rfl))) | (apply Bd.f; (focus (first | assumption | omega | exact Bool.false_ne_true))) | (refine All.mk ?_; intro _) | (apply TkB.r; (focus (repeat (first | exact Take.here | apply Take.there)))) | refine Ch.l ⟨rfl, rfl⟩ ?_ | (apply Nm.r; (focus repeat (first | apply LN.cons | exact LN.nil))) | fail | (apply Cl.p (hva); (focus ((repeat' (first | exact Lend.nil | apply Lend.keep | fail)); done))) | (apply Cl.p (hvb); (focus ((repeat' (first | exact Lend.nil | apply Lend.keep | fail)); done))))
        all_goals exact Fin.p rfl rfl
    · refine CallA.of pg ord34 Tryz.func34 rfl Tryz.ntmps34 Tryz.results34 rfl fun h0 G0 O0 => ?_
      repeat' (first | refine Sp.h ?_ | refine Lk.r rfl ?_ | refine Rf.mk rfl ?_ | (apply Bd.f; (focus (first | assumption | omega | exact Bool.false_ne_true))) | (refine All.mk ?_; intro _) | (apply TkB.r; (focus (repeat (first | exact Take.here | apply Take.there)))) | refine Ch.l ⟨rfl, rfl⟩ ?_ | (apply Nm.r; (focus repeat (first | apply LN.cons | exact LN.nil))) | fail | (apply Cl.p (hva); (focus ((repeat' (first | exact Lend.nil | apply Lend.keep | fail)); done))) | (apply Cl.p (hvb); (focus ((repeat' (first | fail)); done))))
      all_goals exact Fin.p rfl rfl
end Go.Proofs.YtpgpdmmobblffaaGreat
namespace Go.Proofs.YtpgpdmmobblffaaGreat
open Go Go.CF
set_option maxRecDepth 20000
def tA : TblS := ⟨⟨#[97]⟩, 2, [], 0, 1, 0⟩
def tR : TblS := ⟨⟨#[114]⟩, 3, [], 0, 1, 1⟩
theorem sets_mrg : mrgF setsM = [tA, tR] := by
  simp [mrgF, mrgL, setsM, isStrict, szF, prodF, tA, tR]
theorem sets_lay : LayOK setsM.sorts setsM.tables := by
  refine ⟨by simp [setsM], fun x hx => by simp [setsM] at hx, by simp [setsM], fun t ht => ?_⟩
  simp only [setsM, List.mem_cons, List.not_mem_nil, or_false] at ht
  rcases ht with rfl | rfl <;> simp [TabOK, ColOK, Sound, setsM]
theorem sets_ok : MOK setsM := by
  refine ⟨sets_lay, by simp [setsM], by simp [setsM], fun a ha => ?_, by simp [strF, strN, setsM, isStrict], by rw [sets_mrg]; simp⟩
  have hl : ((mrgF setsM).length : Int) = 2 := by rw [sets_mrg]; rfl
  simp only [setsM, List.mem_cons, List.not_mem_nil, or_false] at ha
  rcases ha with rfl | rfl
  all_goals
    refine ⟨by simp, by simp, by simp, fun p hp => by simp at hp, fun p hp => ?_⟩
    simp only [List.mem_cons, List.not_mem_nil, or_false] at hp
    rcases hp with rfl | rfl <;> rw [hl] <;> decide
def ev1 : EvS := ⟨0, 1, 1, [0, 0], 0, 0, 0, 0, 0, 0, 0, 0, 1⟩
def ev2 : EvS := ⟨1, 1, 1, [0, 0], 0, 1, 0, 0, 0, 0, 0, 0, 1⟩
def ev3 : EvS := ⟨0, 2, 2, [1, 1], 0, 0, 0, 0, 0, 0, 0, 0, 2⟩
def k1 : MkS := ⟨0, 1, 1, 0⟩
def k2 : MkS := ⟨1, 1, 1, 0⟩
def k3 : MkS := ⟨0, 2, 2, 0⟩
theorem valC2 (a b : Int) (h : (a = 0 ∨ a = 1) ∧ (b = 0 ∨ b = 1)) : ValC [a, b] := by
  refine ⟨fun x hx => ?_, by simp, by simp⟩
  simp only [List.mem_cons, List.not_mem_nil, or_false] at hx
  unfold rngK
  omega
theorem ev1_ok : EvV setsM (ev1.past.length : Nat) ev1 := by
  refine ⟨⟨valC2 0 0 (by decide), by decide, ⟨0, by decide, by decide⟩, by decide, by unfold Btw; decide, .inl ⟨rfl, ?_, ?_⟩⟩, rfl, fun _ => by simp [ev1, setsM]⟩
  · unfold Sub0 Btw; decide
  · unfold GiveZ; decide
theorem ev2_ok : EvV setsM (ev2.past.length : Nat) ev2 := by
  refine ⟨⟨valC2 0 0 (by decide), by decide, ⟨0, by decide, by decide⟩, by decide, by unfold Btw; decide, .inl ⟨rfl, ?_, ?_⟩⟩, rfl, fun _ => by simp [ev2, setsM]⟩
  · unfold Sub0 Btw; decide
  · unfold GiveZ; decide
theorem ev3_ok : EvV setsM (ev3.past.length : Nat) ev3 := by
  refine ⟨⟨valC2 1 1 (by decide), by decide, ⟨1, by decide, by decide⟩, by decide, by unfold Btw; decide, .inl ⟨rfl, ?_, ?_⟩⟩, rfl, fun _ => by simp [ev3, setsM]⟩
  · unfold Sub0 Btw; decide
  · unfold GiveZ; decide
/-- What can be known of both sets: few marks, each with a name of its own. -/
theorem val_one {t : TblS} {p : Bool} {x : MkS} (hk : t.kind = 2 ∨ t.kind = 3) (hx : RightK t x) : ValG t ⟨p, false, [x]⟩ := by
  refine ⟨⟨fun h => by simp at h, fun h => by have := h.2; unfold isReg at this; omega, fun h => by simp at h, by simp⟩, fun i y hi hy => ?_⟩
  match i, hi, hy with
  | 0, _, hy =>
    have hy : x = y := by simpa using hy
    subst hy
    exact ⟨hx, fun j z h => by omega, fun z h => by omega⟩
theorem val_none {t : TblS} {p : Bool} (hk : t.kind = 2 ∨ t.kind = 3) : ValG t ⟨p, false, []⟩ :=
  ⟨⟨fun h => by simp at h, fun h => by have := h.2; unfold isReg at this; omega, fun h => by simp at h, by simp⟩, fun i y hi _ => by simp at hi⟩
theorem val_two {t : TblS} {p : Bool} {x y : MkS} (hk : t.kind = 2 ∨ t.kind = 3) (hx : RightK t x) (hy : RightK t y) (hn : ¬ Nm x y) (hl : ¬ LtK y x) : ValG t ⟨p, false, [x, y]⟩ := by
  refine ⟨⟨fun h => by simp at h, fun h => by have := h.2; unfold isReg at this; omega, fun h => by omega, by simp⟩, fun i z hi hz => ?_⟩
  match i, hi, hz with
  | 0, _, hz =>
    have hz : x = z := by simpa using hz
    subst hz
    exact ⟨hx, fun j z h => by omega, fun z h => by omega⟩
  | 1, _, hz =>
    have hz : y = z := by simpa using hz
    subst hz
    refine ⟨hy, fun j w hj hw => ?_, fun w _ hw => ?_⟩
    · have : j = 0 := by omega
      subst this
      have hw : x = w := by simpa using hw
      subst hw
      exact hn
    · have hw : x = w := by simpa using hw
      subst hw
      exact hl
def L0 : List MgS := [mg0, mg0]
def L1 : List MgS := [⟨false, false, [k1]⟩, ⟨true, false, []⟩]
def L2 : List MgS := [⟨false, false, [k1]⟩, ⟨true, false, [k2]⟩]
def L3 : List MgS := [⟨false, false, [k1, k3]⟩, ⟨true, false, []⟩]
theorem right_sets {t : TblS} {x : MkS} (ht : t = tA ∨ t = tR) (hx : x = k1 ∨ x = k2 ∨ x = k3) : RightK t x := by
  have hr : ¬ isReg t.kind := by rcases ht with rfl | rfl <;> simp [isReg, tA, tR]
  unfold RightK
  rw [show lowT t = 0 from if_neg hr, show highT t = 0 from if_neg hr]
  rcases hx with rfl | rfl | rfl <;> simp [k1, k2, k3]
theorem vl_two {a b : MgS} (ha : ValG tA a) (hb : ValG tR b) : ValL [tA, tR] [a, b] := by
  refine ⟨rfl, fun i t g ht hg => ?_⟩
  match i, ht, hg with
  | 0, ht, hg => simp at ht hg; subst ht; subst hg; exact ha
  | 1, ht, hg => simp at ht hg; subst ht; subst hg; exact hb
theorem vl0 : ValL [tA, tR] L0 := vl_two (val_none (.inl rfl)) (val_none (.inr rfl))
theorem vl1 : ValL [tA, tR] L1 := vl_two (val_one (.inl rfl) (right_sets (.inl rfl) (by simp))) (val_none (.inr rfl))
theorem vl2 : ValL [tA, tR] L2 := vl_two (val_one (.inl rfl) (right_sets (.inl rfl) (by simp))) (val_one (.inr rfl) (right_sets (.inr rfl) (by simp)))
theorem vl3 : ValL [tA, tR] L3 := vl_two (val_two (.inl rfl) (right_sets (.inl rfl) (by simp)) (right_sets (.inl rfl) (by simp)) (by simp [Nm, k1, k3]) (by simp [LtK, k1, k3])) (val_none (.inr rfl))
theorem applyF_two {m : ModS} {a b : MgS} {e : EvS} {x y : MgS} (hm : mrgF m = [tA, tR]) (hv : ValL [tA, tR] [a, b]) (he : EvV m (e.past.length : Nat) e) (hk : e.kind = 0) (hx : cellF e tA (updF (usF m e) 0) a = (0, x)) (hy : cellF e tR (updF (usF m e) 1) b = (0, y)) : applyF m [a, b] e = (0, [x, y]) := by
  have hC : cellsF (mrgF m) [a, b] (usF m e) e = [(0, x), (0, y)] := by
    rw [hm]
    have e1 : cellF e tA (updF (usF m e) ((0 : Nat) : Int)) a = (0, x) := hx
    have e2 : cellF e tR (updF (usF m e) ((1 : Nat) : Int)) b = (0, y) := hy
    simp only [cellsF, List.length_cons, List.length_nil, List.range_succ, List.range_zero, List.nil_append, List.cons_append, List.map_cons, List.map_nil, List.getElem?_cons_zero, List.getElem?_cons_succ, e1, e2]
  rw [applyF, if_neg (fun h => h ⟨by rw [hm]; exact hv, he⟩), if_neg (fun h => h hk), hC, gather_end (by simp)]
  simp
theorem has_k (a b : Int) (r n : Int) (h : ¬ (0 ≤ r ∧ 1 ≤ n ∧ ∃ x, [a, b][r.toNat]? = some x ∧ n ≤ x)) : ¬ HasC [a, b] r n := fun h9 => h h9.2
theorem app1 : applyF setsM L0 ev1 = (0, L1) := by
  refine applyF_two sets_mrg vl0 ev1_ok rfl ?_ ?_
  · show cellF ev1 tA (some (0, 0, 0)) mg0 = _
    simp [cellF, tA, mg0, addF, HasNm, insK, posK, idxN, isReg, ev1, k1]
  · show cellF ev1 tR (some (0, 1, 0)) mg0 = _
    simp [cellF, tR, mg0, fgK]
theorem app2 : applyF setsM L1 ev2 = (0, L2) := by
  refine applyF_two sets_mrg vl1 ev2_ok rfl ?_ ?_
  · show cellF ev2 tA (some (1, 0, 0)) ⟨false, false, [k1]⟩ = _
    have h : ¬ HasC [0, 0] 0 1 := has_k _ _ _ _ (by simp)
    simp [cellF, tA, fgK, ev2, k1, h]
  · show cellF ev2 tR (some (1, 1, 0)) ⟨true, false, []⟩ = _
    simp [cellF, tR, addF, HasNm, insK, posK, idxN, isReg, ev2, k2]
theorem app3 : applyF setsM L2 ev3 = (0, L3) := by
  refine applyF_two sets_mrg vl2 ev3_ok rfl ?_ ?_
  · show cellF ev3 tA (some (0, 0, 0)) ⟨false, false, [k1]⟩ = _
    simp [cellF, tA, addF, HasNm, Nm, insK, posK, idxN, LtK, isReg, ev3, k1, k3]
  · show cellF ev3 tR (some (0, 1, 0)) ⟨true, false, [k2]⟩ = _
    have h : HasC [1, 1] 1 1 := ⟨valC2 1 1 (by decide), by decide, by decide, 1, rfl, by decide⟩
    simp [cellF, tR, fgK, ev3, k2, h]
theorem setsV2 : setsV [tA, tR] L2 = [[1], [0]] := by decide
theorem setsV3 : setsV [tA, tR] L3 = [[1], [1]] := by decide
end Go.Proofs.YtpgpdmmobblffaaGreat
namespace Go.Proofs.YtpgpdmmobblffaaGreat
open Go Go.CF
set_option maxRecDepth 20000
theorem out_fx {v : Value} {L : List MgE} (hl : L.length ≤ 1000000) (hm : ∀ x ∈ L, x.marks.length ≤ 1000000) {l l' : List AV} {own : List Res} (ht : FX [] l l' own) : FX (outR v L) (.ow v :: l) (mgs (L.map MgE.g) :: l') own := by
  refine .sl .here (by omega) (.unb .here ?_) ht
  refine FX.rows (o := []) (r := mgeR) (f := mgeC) (g := mgC) (φ := MgE.g) L fun x hx o' => ?_
  have := hm x hx
  exact .le (ALe.refl _) (.le (ALe.refl _) (.sl .here (by omega) (FX.refl _) .nil))
theorem applyOK_p (m : ModS) (l : List MgS) (e : EvS) (F : List MgS) (hm : MOK m) (hF : applyF m l e = (0, F)) (hl : F.length ≤ 1000000) (hk : ∀ g ∈ F, g.marks.length ≤ 1000000) :
    CallP Tryz.prog 12 [mdl m, mgs l, evA' e] (.tup [mgs F, it 0]) := by
  refine CallA.fx (apply_a m l e hm) ?_
  rw [hF]
  rintro r o (⟨v, L, _, rfl, rfl, hL⟩ | ⟨h, _⟩)
  · have hL : L.map MgE.g = F := hL
    subst hL
    exact .tup (out_fx (by simpa using hl) (fun x hx => hk x.g (List.mem_map_of_mem hx)) (FX.refl _)) .nil
  · exact absurd rfl h
theorem new0_p : CallP Tryz.prog 18 [mdl setsM] (mgs L0) := by
  have h := new_p setsM sets_lay
  rw [sets_mrg] at h
  exact h
theorem app1_p : CallP Tryz.prog 12 [mdl setsM, mgs L0, evA' ev1] (.tup [mgs L1, it 0]) := applyOK_p _ _ _ _ sets_ok app1 (by decide) (by decide)
theorem app2_p : CallP Tryz.prog 12 [mdl setsM, mgs L1, evA' ev2] (.tup [mgs L2, it 0]) := applyOK_p _ _ _ _ sets_ok app2 (by decide) (by decide)
theorem app3_p : CallP Tryz.prog 12 [mdl setsM, mgs L2, evA' ev3] (.tup [mgs L3, it 0]) := applyOK_p _ _ _ _ sets_ok app3 (by decide) (by decide)
theorem sets_k : ∀ t ∈ mrgF setsM, t.kind = 2 ∨ t.kind = 3 := by
  rw [sets_mrg]; decide
theorem val2_p : CallP Tryz.prog 14 [mdl setsM, mgs L2] (.tup [clks [[1], [0]], it 0]) := by
  have h := valuesL_p setsM L2 sets_lay (by rw [sets_mrg]; exact vl2) sets_k (by rw [sets_mrg]; decide)
  rwa [sets_mrg, setsV2] at h
theorem val3_p : CallP Tryz.prog 14 [mdl setsM, mgs L3] (.tup [clks [[1], [1]], it 0]) := by
  have h := valuesL_p setsM L3 sets_lay (by rw [sets_mrg]; exact vl3) sets_k (by rw [sets_mrg]; decide)
  rwa [sets_mrg, setsV3] at h
set_option maxHeartbeats 4000000 in
theorem awake34_p : CallP Tryz.prog 8 [] (bl true) := by
  have hs := sets_p
  have hn := new0_p
  have hsa := same34_p L2 L2
  have hl2 := listsQ_p [[1], [0]] [[1], [0]]
  have hl3 := listsQ_p [[1], [1]] [[1], [1]]
  have g2 : L3[0]? = some ⟨false, false, [k1, k3]⟩ := rfl
  have g3 : L3[1]? = some ⟨true, false, []⟩ := rfl
  have g4 : (L3.length : Int) = 2 := rfl
  have g5 : (([k1, k3] : List MkS).length : Int) = 2 := rfl
  refine CallA.of pg ord8 Tryz.func8 rfl Tryz.ntmps8 Tryz.results8 rfl fun h0 G0 O0 => ?_
  repeat' (first | refine Sp.h ?_ | refine Lk.r rfl ?_ | refine Rf.mk rfl ?_ | (refine All.mk ?_; intro _) | (apply TkA.r; (focus (repeat (first | exact Take.here | apply Take.there)))) | (apply TkB.r; (focus (repeat (first | exact Take.here | apply Take.there)))) | refine Ch.l ⟨rfl, rfl⟩ ?_ | (apply SetAsk.r; (focus (repeat (first | exact SetAs.z | (apply SetAs.c; (focus (repeat (first | assumption | exact SetA.z | apply SetA.s)))))))) | (apply Fk.r; (focus (repeat (first | exact FillA.nil | (apply FillA.agg; (focus rfl); (focus rfl); (focus (repeat (first | exact SetAs.z | (apply SetAs.c; (focus (repeat (first | assumption | exact SetA.z | apply SetA.s)))))))) | (apply FillA.one; (focus rfl); (focus infer_instance); (focus (repeat (first | assumption | exact SetA.z | apply SetA.s)))))))) | (apply Nm.r; (focus repeat (first | apply LN.cons | exact LN.nil))) | refine Rf.mk ⟨rfl, rfl, rfl⟩ ?_ | fail | (apply Cl.p (hs); (focus repeat' (first | exact Lend.nil | apply Lend.keep | fail))) | (apply Cl.p (hn); (focus repeat' (first | exact Lend.nil | apply Lend.keep | fail))))
  rename_i b1 _ _ _
  apply CA.freezeX 20 (b := evs [ev1, ev2])
  focus rfl
  focus (repeat' (first | exact FX.nil | (apply FX.sl; (focus (repeat (first | exact Take.here | apply Take.there))); (focus exact Nat.le_of_ble_eq_true rfl)) | (apply FX.le; (focus first | exact ALe.refl _ | exact ALe.nil)) | apply FX.agg | apply FX.tup))
  refine CA.loop (fun x : Nat × List MgS => ⟨[(1, pm b1), (2, mgs x.2), (20, evs [ev1, ev2]), (21, it (2 : Nat)), (22, it x.1)], [blkR b1 30 (modC setsM)]⟩)
    (fun x => x = (0, L0) ∨ x = (1, L1) ∨ x = (2, L2)) (fun x => 2 - x.1) (0, L0) ⟨by (repeat (first | exact trivial | refine ⟨rfl, ?_⟩)), by (repeat (first | exact Subl.nil | refine Subl.cons (by (repeat (first | exact Take.here | apply Take.there))) ?_))⟩ (.inl rfl) ?_
  have g0 : [ev1, ev2][0]? = some ev1 := rfl
  have g1 : [ev1, ev2][1]? = some ev2 := rfl
  rintro x (rfl | rfl | rfl)
  · simp only
    repeat' (first | refine Sp.h ?_ | refine Lk.r rfl ?_ | refine Rf.mk rfl ?_ | (apply Bd.t; (focus (first | assumption | omega | rfl))) | (refine All.mk ?_; intro _) | (apply TkB.r; (focus (repeat (first | exact Take.here | apply Take.there)))) | (apply Ix.q; (focus exact rfl); (focus assumption)) | refine Ch.l ⟨rfl, rfl⟩ ?_ | (apply SetAsk.r; (focus (repeat (first | exact SetAs.z | (apply SetAs.c; (focus (repeat (first | assumption | exact SetA.z | apply SetA.s)))))))) | (apply Nm.r; (focus repeat (first | apply LN.cons | exact LN.nil))) | (apply Ov.n; (focus first | omega | (simp <;> omega))) | fail | (apply Cl.p (app1_p); (focus repeat' (first | exact Lend.nil | apply Lend.keep | fail))))
    exact PA.lp (1, L1) ⟨by (repeat (first | exact trivial | refine ⟨rfl, ?_⟩)), by (repeat (first | exact Subl.nil | refine Subl.cons (by (repeat (first | exact Take.here | apply Take.there))) ?_))⟩ ⟨.inr (.inl rfl), by decide⟩
  · simp only
    repeat' (first | refine Sp.h ?_ | refine Lk.r rfl ?_ | refine Rf.mk rfl ?_ | (apply Bd.t; (focus (first | assumption | omega | rfl))) | (refine All.mk ?_; intro _) | (apply TkB.r; (focus (repeat (first | exact Take.here | apply Take.there)))) | (apply Ix.q; (focus exact rfl); (focus assumption)) | refine Ch.l ⟨rfl, rfl⟩ ?_ | (apply SetAsk.r; (focus (repeat (first | exact SetAs.z | (apply SetAs.c; (focus (repeat (first | assumption | exact SetA.z | apply SetA.s)))))))) | (apply Nm.r; (focus repeat (first | apply LN.cons | exact LN.nil))) | (apply Ov.n; (focus first | omega | (simp <;> omega))) | fail | (apply Cl.p (app2_p); (focus repeat' (first | exact Lend.nil | apply Lend.keep | fail))))
    exact PA.lp (2, L2) ⟨by (repeat (first | exact trivial | refine ⟨rfl, ?_⟩)), by (repeat (first | exact Subl.nil | refine Subl.cons (by (repeat (first | exact Take.here | apply Take.there))) ?_))⟩ ⟨.inr (.inr rfl), by decide⟩
  · simp only
    repeat' (first | refine Sp.h ?_ | refine Lk.r rfl ?_ | refine Rf.mk rfl ?_ | (apply Bd.f; (focus (first | assumption | omega | exact Bool.false_ne_true))) | (apply TkB.r; (focus (repeat (first | exact Take.here | apply Take.there)))) | refine Ch.l ⟨rfl, rfl⟩ ?_ | fail)
    (apply Cl.p (val2_p); (focus repeat' (first | exact Lend.nil | apply Lend.keep | fail)))
    repeat' (first | refine Sp.h ?_ | refine Lk.r rfl ?_ | refine Rf.mk rfl ?_ | (refine All.mk ?_; intro _) | (apply TkB.r; (focus (repeat (first | exact Take.here | apply Take.there)))) | refine Ch.l ⟨rfl, rfl⟩ ?_ | (apply Fk.r; (focus (repeat (first | exact FillA.nil | (apply FillA.agg; (focus rfl); (focus rfl); (focus (repeat (first | exact SetAs.z | (apply SetAs.c; (focus (repeat (first | assumption | exact SetA.z | apply SetA.s)))))))) | (apply FillA.one; (focus rfl); (focus infer_instance); (focus (repeat (first | assumption | exact SetA.z | apply SetA.s)))))))) | refine Rf.mk ⟨rfl, rfl, rfl⟩ ?_ | fail)
    apply Cl.fx [mdl setsM, mgs L2, evA' ev3]
    focus (repeat' (first | exact FX.nil | (apply FX.sl; (focus (repeat (first | exact Take.here | apply Take.there))); (focus exact Nat.le_of_ble_eq_true rfl)) | (apply FX.le; (focus first | exact ALe.refl _ | exact ALe.nil)) | apply FX.agg | apply FX.tup))
    (apply Cl.p (app3_p); (focus repeat' (first | exact Lend.nil | apply Lend.keep | fail)))
    repeat' (first | refine Sp.h ?_ | refine Lk.r rfl ?_ | refine Rf.mk rfl ?_ | (apply TkB.r; (focus (repeat (first | exact Take.here | apply Take.there)))) | refine Ch.l ⟨rfl, rfl⟩ ?_ | fail)
    (apply Cl.p (val3_p); (focus repeat' (first | exact Lend.nil | apply Lend.keep | fail)))
    repeat' (first | refine Sp.h ?_ | refine Lk.r rfl ?_ | refine Rf.mk rfl ?_ | (refine All.mk ?_; intro _) | (apply Fk.r; (focus (repeat (first | exact FillA.nil | (apply FillA.agg; (focus rfl); (focus rfl); (focus (repeat (first | exact SetAs.z | (apply SetAs.c; (focus (repeat (first | assumption | exact SetA.z | apply SetA.s)))))))) | (apply FillA.one; (focus rfl); (focus infer_instance); (focus (repeat (first | assumption | exact SetA.z | apply SetA.s)))))))) | refine Rf.mk ⟨rfl, rfl, rfl⟩ ?_ | fail)
    apply Cl.fx [mgs L2, mgs L2]
    focus (repeat' (first | exact FX.nil | (apply FX.sl; (focus (repeat (first | exact Take.here | apply Take.there))); (focus exact Nat.le_of_ble_eq_true rfl)) | (apply FX.le; (focus first | exact ALe.refl _ | exact ALe.nil)) | apply FX.agg | apply FX.tup))
    (apply Cl.p (hsa); (focus repeat' (first | exact Lend.nil | apply Lend.keep | fail)))
    rw [decide_eq_true rfl]
    repeat' (first | refine Sp.h ?_ | refine Lk.r rfl ?_ | refine Rf.mk rfl ?_ | (apply Bd.t; (focus (first | assumption | omega | rfl))) | (refine All.mk ?_; intro _) | (apply Fk.r; (focus (repeat (first | exact FillA.nil | (apply FillA.agg; (focus rfl); (focus rfl); (focus (repeat (first | exact SetAs.z | (apply SetAs.c; (focus (repeat (first | assumption | exact SetA.z | apply SetA.s)))))))) | (apply FillA.one; (focus rfl); (focus infer_instance); (focus (repeat (first | assumption | exact SetA.z | apply SetA.s)))))))) | refine Rf.mk ⟨rfl, rfl, rfl⟩ ?_ | fail)
    apply Cl.fx [clks [[1], [0]], clks [[1], [0]]]
    focus (repeat' (first | exact FX.nil | (apply FX.sl; (focus (repeat (first | exact Take.here | apply Take.there))); (focus exact Nat.le_of_ble_eq_true rfl)) | (apply FX.le; (focus first | exact ALe.refl _ | exact ALe.nil)) | apply FX.agg | apply FX.tup))
    (apply Cl.p (hl2); (focus repeat' (first | exact Lend.nil | apply Lend.keep | fail)))
    rw [decide_eq_true rfl]
    repeat' (first | refine Sp.h ?_ | refine Lk.r rfl ?_ | refine Rf.mk rfl ?_ | (apply Bd.t; (focus (first | assumption | omega | rfl))) | (refine All.mk ?_; intro _) | (apply Fk.r; (focus (repeat (first | exact FillA.nil | (apply FillA.agg; (focus rfl); (focus rfl); (focus (repeat (first | exact SetAs.z | (apply SetAs.c; (focus (repeat (first | assumption | exact SetA.z | apply SetA.s)))))))) | (apply FillA.one; (focus rfl); (focus infer_instance); (focus (repeat (first | assumption | exact SetA.z | apply SetA.s)))))))) | refine Rf.mk ⟨rfl, rfl, rfl⟩ ?_ | fail)
    apply Cl.fx [clks [[1], [1]], clks [[1], [1]]]
    focus (repeat' (first | exact FX.nil | (apply FX.sl; (focus (repeat (first | exact Take.here | apply Take.there))); (focus exact Nat.le_of_ble_eq_true rfl)) | (apply FX.le; (focus first | exact ALe.refl _ | exact ALe.nil)) | apply FX.agg | apply FX.tup))
    (apply Cl.p (hl3); (focus repeat' (first | exact Lend.nil | apply Lend.keep | fail)))
    rw [decide_eq_true rfl]
    repeat' (first | refine Sp.h ?_ | refine Lk.r rfl ?_ | refine Rf.mk rfl ?_ | (apply Bd.t; (focus (first | assumption | omega | rfl))) | (refine Im.mk ?_; intro _) | (apply Ix.q; (focus exact rfl); (focus assumption)) | (apply Nm.r; (focus repeat (first | apply LN.cons | exact LN.nil))) | fail)
    exact Fin.p rfl (vb rfl)
end Go.Proofs.YtpgpdmmobblffaaGreat
namespace Go.Proofs.YtpgpdmmobblffaaGreat
open Go Go.CF
set_option maxRecDepth 20000
set_option maxHeartbeats 4000000 in
theorem joins34_p (m : ModS) (a : List MgS) (ac : List Int) (b : List MgS) (bc : List Int) : CallP Tryz.prog 6 [mdl m, mgs a, ints ac, mgs b, ints bc] (bl true) := by
  have haw := awake34_p
  have hfe := few32_c m []
  have hfa := few34_p a
  have hfb := few34_p b
  refine CallA.of pg ord6 Tryz.func6 rfl Tryz.ntmps6 Tryz.results6 rfl fun h0 G0 O0 => ?_
  repeat' (first | refine Sp.h ?_ | refine Lk.r rfl ?_ | refine Rf.mk rfl ?_ | (apply Bd.t; (focus (first | assumption | omega | rfl))) | (refine All.mk ?_; intro _) | (apply TkB.r; (focus (repeat (first | exact Take.here | apply Take.there)))) | refine Ch.l ⟨rfl, rfl⟩ ?_ | fail | (apply Cl.p (haw); (focus repeat' (first | exact Lend.nil | fail))))
  apply Cl.fx [mdl m, evs []]
  focus (repeat' (first | exact FX.nil | (apply FX.sl; (focus (repeat (first | exact Take.here | apply Take.there))); (focus exact Nat.le_of_ble_eq_true rfl)) | (apply FX.le; (focus first | exact ALe.refl _ | exact ALe.nil)) | apply FX.agg | apply FX.tup))
  (apply Cl.use (hfe); (focus repeat' (first | exact Lend.nil | apply Lend.keep | fail)); (focus (repeat (first | exact Takes.nil | (apply Takes.cons; (focus (repeat (first | exact Take.here | apply Take.there))))))); (focus rfl))
  rintro _ _ ⟨q, rfl, rfl, hb⟩
  cases q with
  | false =>
    repeat' (first | refine Sp.h ?_ | refine Lk.r rfl ?_ | refine Rf.mk rfl ?_ | (apply Bd.f; (focus (first | assumption | omega | exact Bool.false_ne_true))) | (apply Nm.r; (focus repeat (first | apply LN.cons | exact LN.nil))) | fail | (apply Cl.p (hfa); (focus repeat' (first | fail))))
    exact Fin.p rfl rfl
  | true =>
    obtain ⟨hm, -⟩ := hb rfl
    by_cases hka : FewK a
    rotate_left
    · repeat' (first | refine Sp.h ?_ | refine Lk.r rfl ?_ | refine Rf.mk rfl ?_ | (apply Bd.t; (focus (first | assumption | omega | rfl))) | (apply Bd.f; (focus (first | assumption | omega | exact Bool.false_ne_true))) | (apply Nm.r; (focus repeat (first | apply LN.cons | exact LN.nil))) | fail | (apply Cl.p (hfa); (focus repeat' (first | exact Lend.nil | apply Lend.keep | fail))) | (apply Cl.p (hfb); (focus repeat' (first | exact Lend.nil | apply Lend.keep | fail))))
      exact Fin.p rfl rfl
    by_cases hkb : FewK b
    rotate_left
    · repeat' (first | refine Sp.h ?_ | refine Lk.r rfl ?_ | refine Rf.mk rfl ?_ | (apply Bd.t; (focus (first | assumption | omega | rfl))) | (apply Bd.f; (focus (first | assumption | omega | exact Bool.false_ne_true))) | (apply Nm.r; (focus repeat (first | apply LN.cons | exact LN.nil))) | fail | (apply Cl.p (hfa); (focus ((repeat' (first | exact Lend.nil | apply Lend.keep | fail)); done))) | (apply Cl.p (hfb); (focus ((repeat' (first | exact Lend.nil | apply Lend.keep | fail)); done))))
      exact Fin.p rfl rfl
    by_cases h1 : 8 < ac.length
    · repeat' (first | refine Sp.h ?_ | refine Lk.r rfl ?_ | refine Rf.mk rfl ?_ | (apply Bd.t; (focus (first | assumption | omega | rfl))) | (refine Im.mk ?_; intro _) | (apply Nm.r; (focus repeat (first | apply LN.cons | exact LN.nil))) | fail | (apply Cl.p (hfa); (focus ((repeat' (first | exact Lend.nil | apply Lend.keep | fail)); done))) | (apply Cl.p (hfb); (focus ((repeat' (first | exact Lend.nil | apply Lend.keep | fail)); done))))
      exact Fin.p rfl rfl
    by_cases h2 : 8 < bc.length
    · repeat' (first | refine Sp.h ?_ | refine Lk.r rfl ?_ | refine Rf.mk rfl ?_ | (apply Bd.t; (focus (first | assumption | omega | rfl))) | (apply Bd.f; (focus (first | assumption | omega | exact Bool.false_ne_true))) | (refine Im.mk ?_; intro _) | (apply Nm.r; (focus repeat (first | apply LN.cons | exact LN.nil))) | fail | (apply Cl.p (hfa); (focus ((repeat' (first | exact Lend.nil | apply Lend.keep | fail)); done))) | (apply Cl.p (hfb); (focus ((repeat' (first | exact Lend.nil | apply Lend.keep | fail)); done))))
      exact Fin.p rfl rfl
    have hp := joinP_p m a b ac bc hm hka hkb
    have hr := joinR_p m a b ac bc hm hka hkb
    have hs := same34_p (joinQ m a ac b bc).2 (joinQ m a ac b bc).2
    rw [decide_eq_true rfl] at hs
    repeat' (first | refine Sp.h ?_ | refine Lk.r rfl ?_ | refine Rf.mk rfl ?_ | (apply Bd.t; (focus (first | assumption | omega | rfl))) | (apply Bd.f; (focus (first | assumption | omega | exact Bool.false_ne_true))) | (refine Im.mk ?_; intro _) | (apply TkB.r; (focus (repeat (first | exact Take.here | apply Take.there)))) | refine Ch.l ⟨rfl, rfl⟩ ?_ | (apply Nm.r; (focus repeat (first | apply LN.cons | exact LN.nil))) | fail | (apply Cl.p (hfa); (focus ((repeat' (first | exact Lend.nil | apply Lend.keep | fail)); done))) | (apply Cl.p (hfb); (focus ((repeat' (first | exact Lend.nil | apply Lend.keep | fail)); done))) | (apply Cl.p (hp); (focus ((repeat' (first | exact Lend.nil | apply Lend.keep | fail)); done))) | (apply Cl.p (hr); (focus ((repeat' (first | exact Lend.nil | apply Lend.keep | fail)); done))) | (apply Cl.p (hs); (focus ((repeat' (first | exact Lend.nil | apply Lend.keep | fail)); done))))
    all_goals exact Fin.p rfl (vb (decide_eq_true rfl))
end Go.Proofs.YtpgpdmmobblffaaGreat
