/- Part 10 of the ground of this proof: what its texts say of the model, the program and the plain data; conditions: those that are named. -/
import Derived.Shelf.Slices.In.SortNone
import Derived.Test.YtmllihbhphnolaaGreatP09
namespace Go.Proofs.YtmllihbhphnolaaGreat
open Go Go.CF
set_option maxRecDepth 20000
abbrev basC (b : NowS) : List AV := [ints b.clock, it b.time, ints b.state, mgs b.merged, nl0, nl0, ints b.places]
abbrev basA (b : NowS) : AV := .agg (basC b)
abbrev stoC (m : ModS) (b : NowS) (v : Value) (w : NowS) : List AV := [ints m.sorts, tbls m.tables, .sl 1 m.families strC, .sl 6 m.cons cnsC, .sl 3 m.ops opC, .sl 5 m.acts actC, .sl 3 m.hides updC, ints b.clock, it b.time, ints b.state, mgs b.merged, nl0, nl0, ints b.places, .ow v, ints w.clock, it w.time, ints w.state, mgs w.merged, ints w.places]
abbrev stoR (p : Nat) (m : ModS) (b : NowS) (v : Value) (w : NowS) : Res := blkR p 165 (stoC m b v w)
abbrev stpC (s : Nat) (e : EvS) (w : NowS) : List AV := [pm s, iv e.rep, iv e.num, iv e.time, ints e.past, iv e.kind, iv e.action, iv e.gk, iv e.gi, iv e.ge, iv e.ga, iv e.to, iv e.place, iv e.serial, ints w.clock, it w.time, ints w.state, mgs w.merged, ints w.places]
abbrev stpR (p s : Nat) (e : EvS) (w : NowS) : Res := blkR p 175 (stpC s e w)
theorem name35_p (e : EvS) : CallP Tryz.prog 88 [evA' e] (dotC e.rep e.num) := by
  refine CallA.of pg ord88 Tryz.func88 rfl Tryz.ntmps88 Tryz.results88 rfl fun h0 G0 O0 => ?_
  repeat' (first | refine Sp.h ?_ | refine Lk.r rfl ?_ | refine Rf.mk rfl ?_ | (refine All.mk ?_; intro _) | (apply TkB.r; (focus (repeat (first | exact Take.here | apply Take.there)))) | (apply SetAsk.r; (focus (repeat (first | exact SetAs.z | (apply SetAs.c; (focus (repeat (first | assumption | exact SetA.z | apply SetA.s)))))))) | (apply Fk.r; (focus (repeat (first | exact FillA.nil | (apply FillA.agg; (focus rfl); (focus rfl); (focus (repeat (first | exact SetAs.z | (apply SetAs.c; (focus (repeat (first | assumption | exact SetA.z | apply SetA.s)))))))) | (apply FillA.one; (focus rfl); (focus infer_instance); (focus (repeat (first | assumption | exact SetA.z | apply SetA.s)))))))) | (apply Nm.r; (focus repeat (first | apply LN.cons | exact LN.nil))) | fail)
  exact Fin.p rfl rfl
theorem count_a (x s : Nat) (e : EvS) (w : NowS) (h0 : 0 ≤ e.rep) (h1 : e.rep.toNat < w.clock.length) (hl : w.clock.length ≤ 5) :
    CallA Tryz.prog 90 [pm x] [stpR x s e w] fun r own => r = it 0 ∧ own = [stpR x s e { w with clock := cntF w.clock e }] := by
  obtain ⟨y, hy⟩ := get_of h1
  have hc := clone_o w.clock (by omega)
  have hcnt : cntF w.clock e = w.clock.set e.rep.toNat (max y e.num) := by rw [cntF, hy]; rfl
  rw [hcnt]
  refine CallA.of pg ord90 Tryz.func90 rfl Tryz.ntmps90 Tryz.results90 rfl fun h0 G0 O0 => ?_
  repeat' (first | refine Sp.h ?_ | refine Lk.r rfl ?_ | refine Rf.mk rfl ?_ | (apply TkB.r; (focus (repeat (first | exact Take.here | apply Take.there)))) | fail)
  (refine Cl.use (hc) (by repeat' (first | exact Lend.nil | apply Lend.keep | fail)) .nil rfl ?_; rintro _ _ ⟨_, rfl, rfl⟩)
  (repeat' (first | (show CA _ _ (Code.region 3 _ _) _ _; apply Stopped.out) | refine Sp.h ?_ | refine Lk.r rfl ?_ | refine Rf.mk rfl ?_ | refine OpK.r rfl ?_ | (apply TkA.r; (focus (repeat (first | exact Take.here | apply Take.there)))) | (apply TkB.r; (focus (repeat (first | exact Take.here | apply Take.there)))) | (apply Ix.r; (focus assumption); (focus omega)) | (apply At.r; (focus assumption)) | (apply SetAk.r; (focus (repeat (first | assumption | exact SetA.z | apply SetA.s)))) | refine Up.r rfl ?_ | (apply CA.draw; (focus rfl); (focus kernel_rfl); (focus kernel_rfl); (focus repeat' (first | apply ON.one | exact ON.done | exact ON.none | apply ON.alt)); (focus rfl)) | fail)); any_goals apply Stopped.mk
  (apply CA.own; (focus (apply OX.blk (b := x); (focus (repeat (first | exact Take.here | apply Take.there))); (focus (repeat' (first | exact FX.nil | (apply FX.s1; (focus (repeat (first | exact Take.here | apply Take.there))); (focus first | omega | (simp; done) | (simp; omega))) | apply FX.k))); (focus (repeat (first | exact Take.here | apply Take.there))))))
  repeat' (first | refine Sp.h ?_ | refine Lk.r rfl ?_ | refine Rf.mk rfl ?_ | (apply Nm.r; (focus repeat (first | apply LN.cons | exact LN.nil))) | fail)
  exact ⟨_, _, .one (.same (.nil (by (repeat (first | exact Subl.nil | refine Subl.cons (by (repeat (first | exact Take.here | apply Take.there))) ?_))))), rfl, rfl⟩
set_option maxHeartbeats 4000000 in
theorem order_a (x s : Nat) (m : ModS) (b : NowS) (v : Value) (evs' : List EvS) (wn : NowS) (e : EvS) (w : NowS) (hl : evs'.length ≤ 1000000) :
    CallA Tryz.prog 91 [pm x] [stpR x s e w, stoR s m b v wn, arrR v 37 13 evs' evC] fun r own => (LateE evs' e ∧ r = it 2 ∧ own = [stoR s m b v wn, arrR v 37 13 evs' evC]) ∨ (¬ LateE evs' e ∧ r = it 0 ∧ own = [stpR x s e { w with time := max w.time e.time }, stoR s m b v wn, arrR v 37 13 evs' evC]) := by
  refine CallA.of pg ord91 Tryz.func91 rfl Tryz.ntmps91 Tryz.results91 rfl fun h0 G0 O0 => ?_
  repeat' (first | refine Sp.h ?_ | refine Lk.r rfl ?_ | refine Rf.mk rfl ?_ | (apply TkA.r; (focus (repeat (first | exact Take.here | apply Take.there)))) | (apply TkB.r; (focus (repeat (first | exact Take.here | apply Take.there)))) | fail)
  refine CA.loop (fun i : Nat => ⟨[(0, pm x), (11, .ow v), (12, it (evs'.length : Nat)), (13, it i)], [stpR x s e w, stoR s m b v wn, arrR v 37 13 evs' evC]⟩) (fun i => i ≤ evs'.length ∧ ∀ y ∈ evs'.take i, ¬ (HasC e.past y.rep y.num ∧ e.time ≤ y.time)) (fun i => evs'.length - i) 0 ⟨by (repeat (first | exact trivial | refine ⟨rfl, ?_⟩)), by (repeat (first | exact Subl.nil | refine Subl.cons (by (repeat (first | exact Take.here | apply Take.there))) ?_))⟩ ⟨Nat.zero_le _, by simp⟩ ?_
  rintro i ⟨hi, ha⟩
  by_cases hin : i < evs'.length
  · obtain ⟨y, hy⟩ := get_of hin
    have h1 := name35_p y
    have h2 := hasC_p e.past y.rep y.num
    by_cases hh : HasC e.past y.rep y.num
    · by_cases ht : e.time ≤ y.time
      · repeat' (first | refine Sp.h ?_ | refine Lk.r rfl ?_ | refine Rf.mk rfl ?_ | (apply Bd.t; (focus (first | assumption | omega | rfl))) | refine OpK.r rfl ?_ | (refine All.mk ?_; intro _) | (apply TkA.r; (focus (repeat (first | exact Take.here | apply Take.there)))) | (apply TkB.r; (focus (repeat (first | exact Take.here | apply Take.there)))) | (apply Ix.q; (focus exact rfl); (focus assumption)) | (apply At.r; (focus assumption)) | refine Ch.l ⟨rfl, rfl⟩ ?_ | (apply SetAsk.r; (focus (repeat (first | exact SetAs.z | (apply SetAs.c; (focus (repeat (first | assumption | exact SetA.z | apply SetA.s)))))))) | (apply Nm.r; (focus repeat (first | apply LN.cons | exact LN.nil))) | (apply CA.draw; (focus rfl); (focus kernel_rfl); (focus kernel_rfl); (focus repeat' (first | apply ON.one | exact ON.done | exact ON.none | apply ON.alt)); (focus rfl)) | fail | (apply Cl.p (h1); (focus ((repeat' (first | exact Lend.nil | apply Lend.keep | fail)); done))) | (apply Cl.p (h2); (focus ((repeat' (first | exact Lend.nil | apply Lend.keep | fail)); done))))
        all_goals exact ⟨_, _, .one (.same (.nil (by (repeat (first | exact Subl.nil | refine Subl.cons (by (repeat (first | exact Take.here | apply Take.there))) ?_))))), .inl ⟨⟨y, List.mem_of_getElem? hy, hh, ht⟩, rfl, rfl⟩⟩
      · repeat' (first | refine Sp.h ?_ | refine Lk.r rfl ?_ | refine Rf.mk rfl ?_ | (apply Bd.t; (focus (first | assumption | omega | rfl))) | (apply Bd.f; (focus (first | assumption | omega | exact Bool.false_ne_true))) | refine OpK.r rfl ?_ | (refine All.mk ?_; intro _) | (apply TkA.r; (focus (repeat (first | exact Take.here | apply Take.there)))) | (apply TkB.r; (focus (repeat (first | exact Take.here | apply Take.there)))) | (apply Ix.q; (focus exact rfl); (focus assumption)) | (apply At.r; (focus assumption)) | refine Ch.l ⟨rfl, rfl⟩ ?_ | (apply SetAsk.r; (focus (repeat (first | exact SetAs.z | (apply SetAs.c; (focus (repeat (first | assumption | exact SetA.z | apply SetA.s)))))))) | (apply Nm.r; (focus repeat (first | apply LN.cons | exact LN.nil))) | (apply CA.draw; (focus rfl); (focus kernel_rfl); (focus kernel_rfl); (focus repeat' (first | apply ON.one | exact ON.done | exact ON.none | apply ON.alt)); (focus rfl)) | (apply Ov.n; (focus first | omega | (simp <;> omega))) | fail | (apply Cl.p (h1); (focus ((repeat' (first | exact Lend.nil | apply Lend.keep | fail)); done))) | (apply Cl.p (h2); (focus ((repeat' (first | exact Lend.nil | apply Lend.keep | fail)); done))))
        all_goals exact PA.lp (i + 1) ⟨by (repeat (first | exact trivial | refine ⟨rfl, ?_⟩)), by (repeat (first | exact Subl.nil | refine Subl.cons (by (repeat (first | exact Take.here | apply Take.there))) ?_))⟩ ⟨⟨hin, all_succ hy ha (fun h => ht h.2)⟩, by omega⟩
    · repeat' (first | refine Sp.h ?_ | refine Lk.r rfl ?_ | refine Rf.mk rfl ?_ | (apply Bd.t; (focus (first | assumption | omega | rfl))) | (apply Bd.f; (focus (first | assumption | omega | exact Bool.false_ne_true))) | refine OpK.r rfl ?_ | (refine All.mk ?_; intro _) | (apply TkA.r; (focus (repeat (first | exact Take.here | apply Take.there)))) | (apply TkB.r; (focus (repeat (first | exact Take.here | apply Take.there)))) | (apply Ix.q; (focus exact rfl); (focus assumption)) | (apply At.r; (focus assumption)) | refine Ch.l ⟨rfl, rfl⟩ ?_ | (apply SetAsk.r; (focus (repeat (first | exact SetAs.z | (apply SetAs.c; (focus (repeat (first | assumption | exact SetA.z | apply SetA.s)))))))) | (apply Nm.r; (focus repeat (first | apply LN.cons | exact LN.nil))) | (apply CA.draw; (focus rfl); (focus kernel_rfl); (focus kernel_rfl); (focus repeat' (first | apply ON.one | exact ON.done | exact ON.none | apply ON.alt)); (focus rfl)) | (apply Ov.n; (focus first | omega | (simp <;> omega))) | fail | (apply Cl.p (h1); (focus ((repeat' (first | exact Lend.nil | apply Lend.keep | fail)); done))) | (apply Cl.p (h2); (focus ((repeat' (first | exact Lend.nil | apply Lend.keep | fail)); done))))
      all_goals exact PA.lp (i + 1) ⟨by (repeat (first | exact trivial | refine ⟨rfl, ?_⟩)), by (repeat (first | exact Subl.nil | refine Subl.cons (by (repeat (first | exact Take.here | apply Take.there))) ?_))⟩ ⟨⟨hin, all_succ hy ha (fun h => hh h.1)⟩, by omega⟩
  · have hie : i = evs'.length := by omega
    subst hie
    rw [List.take_length] at ha
    repeat' (first | refine Sp.h ?_ | refine Lk.r rfl ?_ | refine Rf.mk rfl ?_ | (apply Bd.f; (focus (first | assumption | omega | exact Bool.false_ne_true))) | refine OpK.r rfl ?_ | (apply TkB.r; (focus (repeat (first | exact Take.here | apply Take.there)))) | (apply SetAk.r; (focus (repeat (first | assumption | exact SetA.z | apply SetA.s)))) | (apply Nm.r; (focus repeat (first | apply LN.cons | exact LN.nil))) | (apply CA.draw; (focus rfl); (focus kernel_rfl); (focus kernel_rfl); (focus repeat' (first | apply ON.one | exact ON.done | exact ON.none | apply ON.alt)); (focus rfl)) | fail)
    exact ⟨_, _, .one (.same (.nil (by (repeat (first | exact Subl.nil | refine Subl.cons (by (repeat (first | exact Take.here | apply Take.there))) ?_))))), .inr ⟨fun ⟨y, hy, h⟩ => ha y hy h, rfl, rfl⟩⟩
theorem dltF_at {m : ModS} {e : EvS} {a : ActS} (h : m.acts[e.action.toNat]? = some a) : dltF m e = a.eff.delta := by rw [dltF, h]
theorem addD_succ {s : List Int} {d : List (Int × Int)} {i : Nat} {p : Int × Int} (h : d[i]? = some p) : addD s (d.take (i + 1)) = add1 (addD s (d.take i)) p := by
  rw [List.take_add_one, h, addD, List.foldl_append]; rfl
theorem addD_length (d : List (Int × Int)) : ∀ s : List Int, (addD s d).length = s.length := by
  induction d with
  | nil => intro s; rfl
  | cons p d ih => intro s; rw [addD, List.foldl_cons]; exact (ih _).trans (by simp [add1])
set_option maxHeartbeats 4000000 in
theorem sadd_a (x s : Nat) (m : ModS) (b : NowS) (v : Value) (wn : NowS) (e : EvS) (w : NowS) (hm : MOK m) (hst : w.state.length = strF m) (hev : e.kind = 0 → 0 ≤ e.action ∧ e.action < (m.acts.length : Nat)) :
    CallA Tryz.prog 92 [pm x] [stpR x s e w, stoR s m b v wn] fun r own => (e.kind = 0 ∧ ¬ insS (addE m w.state e) ∧ r = it 2 ∧ own = [stoR s m b v wn]) ∨ (¬ (e.kind = 0 ∧ ¬ insS (addE m w.state e)) ∧ r = it 0 ∧ own = [stpR x s e { w with state := addE m w.state e }, stoR s m b v wn]) := by
  by_cases hk : e.kind = 0
  · obtain ⟨h1, h2⟩ := hev hk
    obtain ⟨a, ha⟩ := get_of (l := m.acts) (i := e.action.toNat) (by omega)
    have hd := dltF_at ha
    have heo := hm.eff a (List.mem_of_getElem? ha)
    have hsl := hm.str
    have hadd : addE m w.state e = addD w.state a.eff.delta := by rw [addE, if_pos hk, hd]
    rw [hadd]
    have hc := clone_o w.state (by omega)
    have hin := inside35_p (addD w.state a.eff.delta)
    refine CallA.of pg ord92 Tryz.func92 rfl Tryz.ntmps92 Tryz.results92 rfl fun h0 G0 O0 => ?_
    repeat' (first | refine Sp.h ?_ | refine Lk.r rfl ?_ | refine Rf.mk rfl ?_ | (apply Bd.t; (focus (first | assumption | omega | rfl))) | (apply TkB.r; (focus (repeat (first | exact Take.here | apply Take.there)))) | fail)
    (refine Cl.use (hc) (by repeat' (first | exact Lend.nil | apply Lend.keep | fail)) .nil rfl ?_; rintro _ _ ⟨_, rfl, rfl⟩)
    repeat' (first | refine Sp.h ?_ | refine Lk.r rfl ?_ | refine Rf.mk rfl ?_ | refine OpK.r rfl ?_ | (refine Im.mk ?_; intro _) | (apply TkB.r; (focus (repeat (first | exact Take.here | apply Take.there)))) | (apply Ix.r; (focus assumption); (focus omega)) | (apply SetAk.r; (focus (repeat (first | assumption | exact SetA.z | apply SetA.s)))) | (apply CA.draw; (focus rfl); (focus kernel_rfl); (focus kernel_rfl); (focus repeat' (first | apply ON.one | exact ON.done | exact ON.none | apply ON.alt)); (focus rfl)) | fail)
    rename_i u _
    refine CA.loop (fun i : Nat => ⟨[(0, pm x), (37, terms a.eff.delta), (38, it (a.eff.delta.length : Nat)), (39, it i)], [arrR u 3 1 (addD w.state (a.eff.delta.take i)) intC, blkR x 175 [pm s, iv e.rep, iv e.num, iv e.time, ints e.past, iv e.kind, iv e.action, iv e.gk, iv e.gi, iv e.ge, iv e.ga, iv e.to, iv e.place, iv e.serial, ints w.clock, it w.time, .ow u, mgs w.merged, ints w.places], stoR s m b v wn]⟩) (fun i => i ≤ a.eff.delta.length) (fun i => a.eff.delta.length - i) 0 ⟨by (repeat (first | exact trivial | refine ⟨rfl, ?_⟩)), by (repeat (first | exact Subl.nil | refine Subl.cons (by (repeat (first | exact Take.here | apply Take.there))) ?_))⟩ (Nat.zero_le _) ?_
    intro i hi
    have hlen := addD_length (a.eff.delta.take i) w.state
    by_cases hil : i < a.eff.delta.length
    · obtain ⟨p, hp⟩ := get_of hil
      obtain ⟨p1, p2⟩ := heo.d p (List.mem_of_getElem? hp)
      obtain ⟨z, hz⟩ := get_of (l := addD w.state (a.eff.delta.take i)) (i := p.1.toNat) (by omega)
      have hs := addD_succ (s := w.state) hp
      rw [show add1 (addD w.state (a.eff.delta.take i)) p = (addD w.state (a.eff.delta.take i)).set p.1.toNat (IntKind.i64.wrap (z + p.2)) by rw [add1, hz]; rfl] at hs
      repeat' (first | refine Sp.h ?_ | refine Lk.r rfl ?_ | refine Rf.mk rfl ?_ | (apply Bd.t; (focus (first | assumption | omega | rfl))) | refine OpK.r rfl ?_ | (refine All.mk ?_; intro _) | (apply TkA.r; (focus (repeat (first | exact Take.here | apply Take.there)))) | (apply TkB.r; (focus (repeat (first | exact Take.here | apply Take.there)))) | (apply Ix.q; (focus exact rfl); (focus assumption)) | (apply Ix.r; (focus assumption); (focus omega)) | (apply At.r; (focus assumption)) | refine Ch.l ⟨rfl, rfl⟩ ?_ | (apply SetAsk.r; (focus (repeat (first | exact SetAs.z | (apply SetAs.c; (focus (repeat (first | assumption | exact SetA.z | apply SetA.s)))))))) | (apply Nm.r; (focus repeat (first | apply LN.cons | exact LN.nil))) | (apply CA.draw; (focus rfl); (focus kernel_rfl); (focus kernel_rfl); (focus repeat' (first | apply ON.one | exact ON.done | exact ON.none | apply ON.alt)); (focus rfl)) | fail)
      refine ⟨?_⟩
      repeat' (first | refine Sp.h ?_ | refine Lk.r rfl ?_ | refine Rf.mk rfl ?_ | refine OpK.r rfl ?_ | (apply TkA.r; (focus (repeat (first | exact Take.here | apply Take.there)))) | (apply Ix.r; (focus assumption); (focus omega)) | (apply At.r; (focus assumption)) | (apply SetAk.r; (focus (repeat (first | assumption | exact SetA.z | apply SetA.s)))) | refine Up.r rfl ?_ | (apply Ov.n; (focus first | omega | (simp <;> omega))) | fail)
      rw [← hs]
      exact PA.lp (i + 1) ⟨by (repeat (first | exact trivial | refine ⟨rfl, ?_⟩)), by (repeat (first | exact Subl.nil | refine Subl.cons (by (repeat (first | exact Take.here | apply Take.there))) ?_))⟩ ⟨hil, by omega⟩
    · have hie : i = a.eff.delta.length := by omega
      subst hie
      rw [List.take_length] at hlen ⊢
      by_cases hS : insS (addD w.state a.eff.delta)
      · rw [decide_eq_true hS] at hin
        repeat' (first | refine Sp.h ?_ | refine Lk.r rfl ?_ | refine Rf.mk rfl ?_ | (apply Bd.f; (focus (first | assumption | omega | exact Bool.false_ne_true))) | (apply TkB.r; (focus (repeat (first | exact Take.here | apply Take.there)))) | fail)
        (apply Cl.lend (hin); (focus repeat' (first | exact Lend.nil | (apply Lend.lend; (focus (repeat (first | exact Take.here | apply Take.there))); (focus first | omega | (simp; omega))) | fail)))
        (repeat' (first | (show CA _ _ (Code.region 11 _ _) _ _; apply Stopped.out) | refine Sp.h ?_ | refine Lk.r rfl ?_ | (apply Bd.t; (focus (first | assumption | omega | rfl))) | fail)); any_goals apply Stopped.mk
        (apply CA.own; (focus (apply OX.blk (b := x); (focus (repeat (first | exact Take.here | apply Take.there))); (focus (repeat' (first | exact FX.nil | (apply FX.s1; (focus (repeat (first | exact Take.here | apply Take.there))); (focus first | omega | (simp; done) | (simp; omega))) | apply FX.k))); (focus (repeat (first | exact Take.here | apply Take.there))))))
        repeat' (first | refine Sp.h ?_ | refine Lk.r rfl ?_ | refine Rf.mk rfl ?_ | (apply Nm.r; (focus repeat (first | apply LN.cons | exact LN.nil))) | fail)
        exact ⟨_, _, .one (.same (.nil (by (repeat (first | exact Subl.nil | refine Subl.cons (by (repeat (first | exact Take.here | apply Take.there))) ?_))))), .inr ⟨fun h => h.2 hS, rfl, rfl⟩⟩
      · rw [decide_eq_false hS] at hin
        repeat' (first | refine Sp.h ?_ | refine Lk.r rfl ?_ | refine Rf.mk rfl ?_ | (apply Bd.f; (focus (first | assumption | omega | exact Bool.false_ne_true))) | (apply TkB.r; (focus (repeat (first | exact Take.here | apply Take.there)))) | fail)
        (apply Cl.lend (hin); (focus repeat' (first | exact Lend.nil | (apply Lend.lend; (focus (repeat (first | exact Take.here | apply Take.there))); (focus first | omega | (simp; omega))) | fail)))
        repeat' (first | refine Sp.h ?_ | refine Lk.r rfl ?_ | refine Rf.mk rfl ?_ | (apply Bd.f; (focus (first | assumption | omega | exact Bool.false_ne_true))) | (apply Nm.r; (focus repeat (first | apply LN.cons | exact LN.nil))) | fail)
        exact ⟨_, _, .one (.same (.nil (by (repeat (first | exact Subl.nil | refine Subl.cons (by (repeat (first | exact Take.here | apply Take.there))) ?_))))), .inl ⟨hk, hS, rfl, rfl⟩⟩
  · have hadd : addE m w.state e = w.state := if_neg hk
    rw [hadd]
    refine CallA.of pg ord92 Tryz.func92 rfl Tryz.ntmps92 Tryz.results92 rfl fun h0 G0 O0 => ?_
    repeat' (first | refine Sp.h ?_ | refine Lk.r rfl ?_ | refine Rf.mk rfl ?_ | (apply Bd.f; (focus (first | assumption | omega | exact Bool.false_ne_true))) | (apply TkB.r; (focus (repeat (first | exact Take.here | apply Take.there)))) | (apply Nm.r; (focus repeat (first | apply LN.cons | exact LN.nil))) | fail)
    exact ⟨_, _, .one (.same (.nil (by (repeat (first | exact Subl.nil | refine Subl.cons (by (repeat (first | exact Take.here | apply Take.there))) ?_))))), .inr ⟨fun h => hk h.1, rfl, rfl⟩⟩
/-- What is known behind an event, with the error. -/
theorem applyT_p (m : ModS) (l : List MgS) (e : EvS) (hm : MOK m) : CallP Tryz.prog 131 [mdl m, mgs l, evA' e] (.tup [mgs (applyF m l e).2, it (applyF m l e).1]) := by
  by_cases h0 : (applyF m l e).1 = 0
  · obtain ⟨h1, _, h3, _, h5⟩ := applyF_ok h0
    have := h1.1
    have := hm.mrg
    have hF : applyF m l e = (0, (applyF m l e).2) := by rw [← h0]
    rw [h0]
    exact applyOK_p m l e _ hm hF (by omega) h5
  · refine CallA.fx (apply_a m l e hm) ?_
    have h2 : (applyF m l e).2 = [] := by
      unfold applyF at h0 ⊢
      split
      · rfl
      · rename_i h1
        rw [if_neg h1] at h0
        split
        · rename_i h2; rw [if_pos h2] at h0; exact absurd rfl h0
        · rename_i h2
          rw [if_neg h2] at h0
          unfold gatherF at h0 ⊢
          split
          · rfl
          · rename_i h3
            rw [h3] at h0
            simp only at h0
            split
            · rfl
            · rename_i h4; rw [if_neg h4] at h0; exact absurd rfl h0
    rw [h2]
    rintro r o (⟨v, L, h, _⟩ | ⟨_, rfl, rfl⟩)
    · exact absurd h h0
    · exact .tup (FX.kn (FX.refl _)) .nil
theorem update_a (x s : Nat) (m : ModS) (b : NowS) (v : Value) (wn : NowS) (e : EvS) (w : NowS) (hm : MOK m) :
    CallA Tryz.prog 93 [pm x] [stpR x s e w, stoR s m b v wn] fun r own => r = it (applyF m w.merged e).1 ∧ own = [stpR x s e { w with merged := (applyF m w.merged e).2 }, stoR s m b v wn] := by
  have ha := applyT_p m w.merged e hm
  refine CallA.of pg ord93 Tryz.func93 rfl Tryz.ntmps93 Tryz.results93 rfl fun h0 G0 O0 => ?_
  repeat' (first | refine Sp.h ?_ | refine Lk.r rfl ?_ | refine Rf.mk rfl ?_ | refine OpK.r rfl ?_ | (apply TkB.r; (focus (repeat (first | exact Take.here | apply Take.there)))) | refine Ch.r ?_ | (apply SetAk.r; (focus (repeat (first | assumption | exact SetA.z | apply SetA.s)))) | (apply Nm.r; (focus repeat (first | apply LN.cons | exact LN.nil))) | (apply CA.draw; (focus rfl); (focus kernel_rfl); (focus kernel_rfl); (focus repeat' (first | apply ON.one | exact ON.done | exact ON.none | apply ON.alt)); (focus rfl)) | fail | (apply Cl.p (ha); (focus repeat' (first | exact Lend.nil | apply Lend.keep | fail))))
  exact ⟨_, _, .one (.same (.nil (by (repeat (first | exact Subl.nil | refine Subl.cons (by (repeat (first | exact Take.here | apply Take.there))) ?_))))), rfl, rfl⟩
theorem place_a (x s : Nat) (e : EvS) (w : NowS) (hp : SrtI w.places) (hl : w.places.length ≤ 100000) :
    CallA Tryz.prog 94 [pm x] [stpR x s e w] fun r own => r = it 0 ∧ own = [stpR x s e { w with places := plE w.places e }] := by
  have hw := with_p w.places e.place hp hl
  by_cases h : 0 < e.place
  · rw [show plE w.places e = withP w.places e.place from if_pos h]
    refine CallA.of pg ord94 Tryz.func94 rfl Tryz.ntmps94 Tryz.results94 rfl fun h0 G0 O0 => ?_
    repeat' (first | refine Sp.h ?_ | refine Lk.r rfl ?_ | refine Rf.mk rfl ?_ | (apply Bd.t; (focus (first | assumption | omega | rfl))) | refine OpK.r rfl ?_ | (apply TkB.r; (focus (repeat (first | exact Take.here | apply Take.there)))) | (apply SetAk.r; (focus (repeat (first | assumption | exact SetA.z | apply SetA.s)))) | (apply Nm.r; (focus repeat (first | apply LN.cons | exact LN.nil))) | (apply CA.draw; (focus rfl); (focus kernel_rfl); (focus kernel_rfl); (focus repeat' (first | apply ON.one | exact ON.done | exact ON.none | apply ON.alt)); (focus rfl)) | fail | (apply Cl.p (hw); (focus repeat' (first | exact Lend.nil | apply Lend.keep | fail))))
    exact ⟨_, _, .one (.same (.nil (by (repeat (first | exact Subl.nil | refine Subl.cons (by (repeat (first | exact Take.here | apply Take.there))) ?_))))), rfl, rfl⟩
  · rw [show plE w.places e = w.places from if_neg h]
    refine CallA.of pg ord94 Tryz.func94 rfl Tryz.ntmps94 Tryz.results94 rfl fun h0 G0 O0 => ?_
    repeat' (first | refine Sp.h ?_ | refine Lk.r rfl ?_ | refine Rf.mk rfl ?_ | (apply Bd.f; (focus (first | assumption | omega | exact Bool.false_ne_true))) | (apply TkB.r; (focus (repeat (first | exact Take.here | apply Take.there)))) | (apply Nm.r; (focus repeat (first | apply LN.cons | exact LN.nil))) | fail | (apply Cl.p (hw); (focus repeat' (first | fail))))
    exact ⟨_, _, .one (.same (.nil (by (repeat (first | exact Subl.nil | refine Subl.cons (by (repeat (first | exact Take.here | apply Take.there))) ?_))))), rfl, rfl⟩
theorem svalid_p (s : Nat) (m : ModS) (b : NowS) (v : Value) (w : NowS) (e : EvS) :
    CallA Tryz.prog 87 [pm s, evA' e] [stoR s m b v w] fun r own => r = bl (decide (EvV m (w.clock.length : Nat) e)) ∧ own = [stoR s m b v w] := by
  have hv := evalid_p m (w.clock.length : Nat) e
  refine CallA.of pg ord87 Tryz.func87 rfl Tryz.ntmps87 Tryz.results87 rfl fun h0 G0 O0 => ?_
  repeat' (first | refine Sp.h ?_ | refine Lk.r rfl ?_ | refine Rf.mk rfl ?_ | refine OpK.r rfl ?_ | (refine Im.mk ?_; intro _) | (refine All.mk ?_; intro _) | (apply TkB.r; (focus (repeat (first | exact Take.here | apply Take.there)))) | refine Ch.l ⟨rfl, rfl⟩ ?_ | refine Ch.r ?_ | (apply Nm.r; (focus repeat (first | apply LN.cons | exact LN.nil))) | (apply CA.draw; (focus rfl); (focus kernel_rfl); (focus kernel_rfl); (focus repeat' (first | apply ON.one | exact ON.done | exact ON.none | apply ON.alt)); (focus rfl)) | fail | (apply Cl.p (hv); (focus repeat' (first | exact Lend.nil | apply Lend.keep | fail))))
  exact ⟨_, _, .one (.same (.nil (by (repeat (first | exact Subl.nil | refine Subl.cons (by (repeat (first | exact Take.here | apply Take.there))) ?_))))), rfl, rfl⟩
end Go.Proofs.YtmllihbhphnolaaGreat
namespace Go.CF
open Go
/-- A function whose first arguments are given. -/
def AV.fb (f : FuncId) (bs : List AV) : AV := ⟨fun h G u => ∃ vs, u = .func (.func f) vs.toArray #[] ∧ RepT h G vs bs, by rintro h h' G v x ⟨vs, e, r⟩; exact ⟨vs, e, r.stp x⟩, by rintro h G G' v x ⟨vs, e, r⟩; exact ⟨vs, e, r.mono x⟩⟩
section
variable {Γ : Cx} {k : List KI} {e : EA} {o : List Res} {N : NA} {c : Cls} {d : Tmp} {ty : TypeId} {x y : Operand}
instance {f : FuncId} {bs : List AV} : OneA (.fb f bs) := ⟨by rintro h G u ⟨vs, rfl, _⟩; rfl⟩
instance {f : FuncId} : Sp (SA Γ c (some d) (.makeFunc (.func f) #[x] #[]) ty e o N) (Lk (evAs e [x]) fun cs => N ((d, .fb f cs) :: e) o) := ⟨fun ⟨cs, hcs, hn⟩ => ⟨fun env hp G Os c => by
  obtain ⟨vs, h1, h2⟩ := c.gets hcs
  exact St.makeFunc (l2 := []) h1 rfl (CN.mk (c.put d (a := .fb f cs) ⟨vs, rfl, h2⟩) hn)⟩⟩
instance {f : FuncId} {cs asx : List AV} {args : Array Operand} {tys : Array TypeId} : Sp (ClF Γ c d x args tys ty e o N (.fb f cs) asx) (Rf (Γ.fp.n = none) (Rf (Γ.en f = true) (Cl Γ c f (cs ++ asx) o fun r o' => N ((d, r) :: e) o'))) := ⟨fun ⟨hfp, he, h⟩ => ⟨fun ha hb hc => ⟨fun env hh G Os cn => by
  obtain ⟨v, g1, ws, rfl, g2⟩ := cn.get ha
  obtain ⟨vs, g3, g4⟩ := cn.gets hb
  exact St.callT (cap := []) Γ.ok g1 g3 he hc (by rw [List.append_nil]; exact (cl_sa (dst := some d) cn (g2.app g4) hfp h).mono fun v h' hk => hk.2)⟩⟩⟩
end
end Go.CF
namespace Go.Proofs.YtmllihbhphnolaaGreat
open Go Go.CF
set_option maxRecDepth 20000
/-- What a store has is sound. -/
structure NowOK (m : ModS) (w : NowS) : Prop where
  clk : ValC w.clock
  st : w.state.length = strF m
  pls : SrtI w.places
  pll : w.places.length ≤ 100000
noncomputable def evsD (m : ModS) (evs : List EvS) (w : NowS) (e : EvS) : List EvS := if (deliverF m evs w e).1 = 0 then evs ++ [e] else evs
noncomputable def wI (m : ModS) (w : NowS) (e : EvS) : Nat → NowS
  | 0 => w
  | 1 => { w with clock := cntF w.clock e }
  | 2 => { w with clock := cntF w.clock e, time := max w.time e.time }
  | 3 => { w with clock := cntF w.clock e, time := max w.time e.time, state := addE m w.state e }
  | 4 => { w with clock := cntF w.clock e, time := max w.time e.time, state := addE m w.state e, merged := (applyF m w.merged e).2 }
  | _ => ⟨cntF w.clock e, max w.time e.time, addE m w.state e, (applyF m w.merged e).2, plE w.places e⟩
def fnL (x : Nat) : List (List AV) := [[AV.fb 90 [pm x]], [AV.fb 91 [pm x]], [AV.fb 92 [pm x]], [AV.fb 93 [pm x]], [AV.fb 94 [pm x]]]
theorem act_rng {e : EvS} (h : FormedE e) (hk : e.kind = 0) : 0 ≤ e.action := by
  have := (kind0 hk).1 h.2.2.2.2.2
  unfold Sub0 Btw at this
  omega
set_option maxHeartbeats 8000000 in
theorem deliver_a (s : Nat) (m : ModS) (b : NowS) (v : Value) (evl : List EvS) (w : NowS) (e : EvS) (hm : MOK m) (hw : NowOK m w) (hl : evl.length ≤ 100000) :
    CallA Tryz.prog 21 [pm s, evA' e] [stoR s m b v w, arrR v 37 13 evl evC] fun r own => r = it (deliverF m evl w e).1 ∧ ∃ v', own = [stoR s m b v' (deliverF m evl w e).2, arrR v' 37 13 (evsD m evl w e) evC] := by
  have hva := svalid_p s m b v w e
  by_cases h1 : EvV m (w.clock.length : Nat) e
  rotate_left
  · have hF : deliverF m evl w e = (1, w) := by rw [deliverF, if_pos h1]
    rw [decide_eq_false h1] at hva
    rw [evsD, hF]
    refine CallA.of pg ord21 Tryz.func21 rfl Tryz.ntmps21 Tryz.results21 rfl fun h0 G0 O0 => ?_
    repeat' (first | refine Sp.h ?_ | refine Lk.r rfl ?_ | refine Rf.mk rfl ?_ | (refine All.mk ?_; intro _) | (apply TkB.r; (focus (repeat (first | exact Take.here | apply Take.there)))) | refine Ch.l ⟨rfl, rfl⟩ ?_ | fail)
    (apply Cl.use (hva); (focus repeat' (first | exact Lend.nil | apply Lend.keep | fail)); (focus (repeat (first | exact Takes.nil | (apply Takes.cons; (focus (repeat (first | exact Take.here | apply Take.there))))))); (focus rfl))
    rintro _ _ ⟨rfl, rfl⟩
    repeat' (first | refine Sp.h ?_ | refine Lk.r rfl ?_ | refine Rf.mk rfl ?_ | (apply Bd.f; (focus (first | assumption | omega | exact Bool.false_ne_true))) | (apply Nm.r; (focus repeat (first | apply LN.cons | exact LN.nil))) | fail)
    exact ⟨_, _, .one (.same (.nil (by (repeat (first | exact Subl.nil | refine Subl.cons (by (repeat (first | exact Take.here | apply Take.there))) ?_))))), rfl, v, rfl⟩
  rw [decide_eq_true h1] at hva
  have hn := name35_p e
  have hh := hasC_p w.clock e.rep e.num
  by_cases h2 : HasC w.clock e.rep e.num
  · have hF : deliverF m evl w e = (6, w) := by rw [deliverF, if_neg (fun h => h h1), if_pos h2]
    rw [decide_eq_true h2] at hh
    rw [evsD, hF]
    refine CallA.of pg ord21 Tryz.func21 rfl Tryz.ntmps21 Tryz.results21 rfl fun h0 G0 O0 => ?_
    repeat' (first | refine Sp.h ?_ | refine Lk.r rfl ?_ | refine Rf.mk rfl ?_ | (refine All.mk ?_; intro _) | (apply TkB.r; (focus (repeat (first | exact Take.here | apply Take.there)))) | refine Ch.l ⟨rfl, rfl⟩ ?_ | fail)
    (apply Cl.use (hva); (focus repeat' (first | exact Lend.nil | apply Lend.keep | fail)); (focus (repeat (first | exact Takes.nil | (apply Takes.cons; (focus (repeat (first | exact Take.here | apply Take.there))))))); (focus rfl))
    rintro _ _ ⟨rfl, rfl⟩
    repeat' (first | refine Sp.h ?_ | refine Lk.r rfl ?_ | refine Rf.mk rfl ?_ | (apply Bd.t; (focus (first | assumption | omega | rfl))) | refine OpK.r rfl ?_ | (apply TkB.r; (focus (repeat (first | exact Take.here | apply Take.there)))) | refine Ch.l ⟨rfl, rfl⟩ ?_ | (apply Nm.r; (focus repeat (first | apply LN.cons | exact LN.nil))) | (apply CA.draw; (focus rfl); (focus kernel_rfl); (focus kernel_rfl); (focus repeat' (first | apply ON.one | exact ON.done | exact ON.none | apply ON.alt)); (focus rfl)) | fail | (apply Cl.p (hn); (focus ((repeat' (first | exact Lend.nil | apply Lend.keep | fail)); done))) | (apply Cl.p (hh); (focus ((repeat' (first | exact Lend.nil | apply Lend.keep | fail)); done))))
    exact ⟨_, _, .one (.same (.nil (by (repeat (first | exact Subl.nil | refine Subl.cons (by (repeat (first | exact Take.here | apply Take.there))) ?_))))), rfl, v, rfl⟩
  rw [decide_eq_false h2] at hh
  have hmi := missing_o w.clock e.past
  have hal : AlikeC [w.clock, e.past] := (alike2 _ _).2 ⟨hw.clk, h1.1.1, by have := h1.2.1; omega⟩
  by_cases h3 : Ins e.past w.clock
  rotate_left
  · have hF : deliverF m evl w e = (9, w) := by rw [deliverF, if_neg (fun h => h h1), if_neg h2, if_pos h3]
    rw [evsD, hF]
    refine CallA.of pg ord21 Tryz.func21 rfl Tryz.ntmps21 Tryz.results21 rfl fun h0 G0 O0 => ?_
    repeat' (first | refine Sp.h ?_ | refine Lk.r rfl ?_ | refine Rf.mk rfl ?_ | (refine All.mk ?_; intro _) | (apply TkB.r; (focus (repeat (first | exact Take.here | apply Take.there)))) | refine Ch.l ⟨rfl, rfl⟩ ?_ | fail)
    (apply Cl.use (hva); (focus repeat' (first | exact Lend.nil | apply Lend.keep | fail)); (focus (repeat (first | exact Takes.nil | (apply Takes.cons; (focus (repeat (first | exact Take.here | apply Take.there))))))); (focus rfl))
    rintro _ _ ⟨rfl, rfl⟩
    repeat' (first | refine Sp.h ?_ | refine Lk.r rfl ?_ | refine Rf.mk rfl ?_ | (apply Bd.t; (focus (first | assumption | omega | rfl))) | refine OpK.r rfl ?_ | (apply TkB.r; (focus (repeat (first | exact Take.here | apply Take.there)))) | refine Ch.l ⟨rfl, rfl⟩ ?_ | (apply CA.draw; (focus rfl); (focus kernel_rfl); (focus kernel_rfl); (focus repeat' (first | apply ON.one | exact ON.done | exact ON.none | apply ON.alt)); (focus rfl)) | fail | (apply Cl.p (hn); (focus ((repeat' (first | exact Lend.nil | apply Lend.keep | fail)); done))) | (apply Cl.p (hh); (focus ((repeat' (first | exact Lend.nil | apply Lend.keep | fail)); done))))
    (apply Cl.use (hmi); (focus repeat' (first | exact Lend.nil | apply Lend.keep | fail)); (focus (repeat (first | exact Takes.nil | (apply Takes.cons; (focus (repeat (first | exact Take.here | apply Take.there))))))); (focus rfl))
    rintro _ _ ⟨u, l, rfl, rfl, hl1, hl2⟩
    have hl0 : 0 < l.length := List.length_pos_iff.2 fun h => h3 (hl1.1 h hal)
    repeat' (first | refine Sp.h ?_ | refine Lk.r rfl ?_ | refine Rf.mk rfl ?_ | (apply Bd.t; (focus (first | assumption | omega | rfl))) | refine OpK.r rfl ?_ | (apply TkA.r; (focus (repeat (first | exact Take.here | apply Take.there)))) | (apply Nm.r; (focus repeat (first | apply LN.cons | exact LN.nil))) | fail)
    exact ⟨_, _, .one (.same (.nil (by (repeat (first | exact Subl.nil | refine Subl.cons (by (repeat (first | exact Take.here | apply Take.there))) ?_))))), rfl, v, rfl⟩
  have hrep : 0 ≤ e.rep ∧ e.rep.toNat < w.clock.length := by
    obtain ⟨_, f2, ⟨x, f3, _⟩, _⟩ := h1.1
    have := (List.getElem?_eq_some_iff.1 f3).1
    exact ⟨f2, by have := h1.2.1; omega⟩
  have hcl := hw.clk.2.2
  have hc4 : ∀ k, (wI m w e k).places = w.places ∨ 5 ≤ k := fun k => by
    match k with
    | 0 => exact .inl rfl
    | 1 => exact .inl rfl
    | 2 => exact .inl rfl
    | 3 => exact .inl rfl
    | 4 => exact .inl rfl
    | k + 5 => exact .inr (by omega)
  refine CallA.of pg ord21 Tryz.func21 rfl Tryz.ntmps21 Tryz.results21 rfl fun h0 G0 O0 => ?_
  repeat' (first | refine Sp.h ?_ | refine Lk.r rfl ?_ | refine Rf.mk rfl ?_ | (refine All.mk ?_; intro _) | (apply TkB.r; (focus (repeat (first | exact Take.here | apply Take.there)))) | refine Ch.l ⟨rfl, rfl⟩ ?_ | fail)
  rename_i b3
  (apply Cl.use (hva); (focus repeat' (first | exact Lend.nil | apply Lend.keep | fail)); (focus (repeat (first | exact Takes.nil | (apply Takes.cons; (focus (repeat (first | exact Take.here | apply Take.there))))))); (focus rfl))
  rintro _ _ ⟨rfl, rfl⟩
  repeat' (first | refine Sp.h ?_ | refine Lk.r rfl ?_ | refine Rf.mk rfl ?_ | (apply Bd.t; (focus (first | assumption | omega | rfl))) | refine OpK.r rfl ?_ | (apply TkB.r; (focus (repeat (first | exact Take.here | apply Take.there)))) | refine Ch.l ⟨rfl, rfl⟩ ?_ | (apply CA.draw; (focus rfl); (focus kernel_rfl); (focus kernel_rfl); (focus repeat' (first | apply ON.one | exact ON.done | exact ON.none | apply ON.alt)); (focus rfl)) | fail | (apply Cl.p (hn); (focus ((repeat' (first | exact Lend.nil | apply Lend.keep | fail)); done))) | (apply Cl.p (hh); (focus ((repeat' (first | exact Lend.nil | apply Lend.keep | fail)); done))))
  (apply Cl.use (hmi); (focus repeat' (first | exact Lend.nil | apply Lend.keep | fail)); (focus (repeat (first | exact Takes.nil | (apply Takes.cons; (focus (repeat (first | exact Take.here | apply Take.there))))))); (focus rfl))
  rintro _ _ ⟨u, l, rfl, rfl, hl1, hl2⟩
  have hl0 : l.length = 0 := by rw [hl1.2 fun _ => h3]; rfl
  repeat' (first | refine Sp.h ?_ | refine Lk.r rfl ?_ | refine Rf.mk rfl ?_ | (apply Bd.f; (focus (first | assumption | omega | exact Bool.false_ne_true))) | refine OpK.r rfl ?_ | (refine All.mk ?_; intro _) | (apply TkA.r; (focus (repeat (first | exact Take.here | apply Take.there)))) | (apply TkB.r; (focus (repeat (first | exact Take.here | apply Take.there)))) | refine Ch.l ⟨rfl, rfl⟩ ?_ | refine Ch.r ?_ | (apply Fk.r; (focus (repeat (first | exact FillA.nil | (apply FillA.agg; (focus rfl); (focus rfl); (focus (repeat (first | exact SetAs.z | (apply SetAs.c; (focus (repeat (first | assumption | exact SetA.z | apply SetA.s)))))))) | (apply FillA.one; (focus rfl); (focus infer_instance); (focus (repeat (first | assumption | exact SetA.z | apply SetA.s)))))))) | refine Rf.mk ⟨rfl, rfl, rfl⟩ ?_ | (apply CA.draw; (focus rfl); (focus kernel_rfl); (focus kernel_rfl); (focus repeat' (first | apply ON.one | exact ON.done | exact ON.none | apply ON.alt)); (focus rfl)) | fail)
  rename_i x q
  refine CA.loop (fun i : Nat => ⟨[(0, pm s), (3, pm b3), (5, pm x), (52, .ow q), (53, it 5), (54, it i)], [stoR s m b v w, arrR v 37 13 evl evC, blkR b3 37 (evC e), stpR x s e (wI m w e i), arrR q 176 1 (fnL x) id]⟩)
    (fun i => i ≤ 5 ∧ (2 ≤ i → ¬ LateE evl e) ∧ (3 ≤ i → ¬ (e.kind = 0 ∧ ¬ insS (addE m w.state e))) ∧ (4 ≤ i → (applyF m w.merged e).1 = 0)) (fun i => 5 - i) 0 ⟨by (repeat (first | exact trivial | refine ⟨rfl, ?_⟩)), by (repeat (first | exact Subl.nil | refine Subl.cons (by (repeat (first | exact Take.here | apply Take.there))) ?_))⟩ ⟨by omega, fun h => by omega, fun h => by omega, fun h => by omega⟩ ?_
  rintro i ⟨hi, i2, i3, i4⟩
  match i, hi with
  | 0, _ =>
    have hq : (fnL x)[0]? = some [AV.fb 90 [pm x]] := rfl
    have hc := count_a x s e w hrep.1 hrep.2 hcl
    repeat' (first | refine Sp.h ?_ | refine Lk.r rfl ?_ | refine Rf.mk rfl ?_ | (apply Bd.t; (focus (first | assumption | omega | rfl))) | (apply TkA.r; (focus (repeat (first | exact Take.here | apply Take.there)))) | (apply Ix.q; (focus exact rfl); (focus assumption)) | (apply At.r; (focus assumption)) | fail)
    (apply Cl.use (hc); (focus repeat' (first | exact Lend.nil | apply Lend.keep | fail)); (focus (repeat (first | exact Takes.nil | (apply Takes.cons; (focus (repeat (first | exact Take.here | apply Take.there))))))); (focus rfl))
    rintro _ _ ⟨rfl, rfl⟩
    repeat' (first | refine Sp.h ?_ | refine Lk.r rfl ?_ | refine Rf.mk rfl ?_ | (apply Bd.t; (focus (first | assumption | omega | rfl))) | (apply Ov.n; (focus first | omega | (simp <;> omega))) | fail)
    exact PA.lp 1 ⟨by (repeat (first | exact trivial | refine ⟨rfl, ?_⟩)), by (repeat (first | exact Subl.nil | refine Subl.cons (by (repeat (first | exact Take.here | apply Take.there))) ?_))⟩ ⟨⟨by omega, fun h => by omega, fun h => by omega, fun h => by omega⟩, by omega⟩
  | 1, _ =>
    have hq : (fnL x)[1]? = some [AV.fb 91 [pm x]] := rfl
    have hc := order_a x s m b v evl w e (wI m w e 1) (by omega)
    repeat' (first | refine Sp.h ?_ | refine Lk.r rfl ?_ | refine Rf.mk rfl ?_ | (apply Bd.t; (focus (first | assumption | omega | rfl))) | (apply TkA.r; (focus (repeat (first | exact Take.here | apply Take.there)))) | (apply Ix.q; (focus exact rfl); (focus assumption)) | (apply At.r; (focus assumption)) | fail)
    (apply Cl.use (hc); (focus repeat' (first | exact Lend.nil | apply Lend.keep | fail)); (focus (repeat (first | exact Takes.nil | (apply Takes.cons; (focus (repeat (first | exact Take.here | apply Take.there))))))); (focus rfl))
    rintro _ _ (⟨hL, rfl, rfl⟩ | ⟨hL, rfl, rfl⟩)
    · have hF : deliverF m evl w e = (2, w) := by rw [deliverF, if_neg (fun h => h h1), if_neg h2, if_neg (fun h => h h3), if_pos hL]
      rw [evsD, hF]
      repeat' (first | refine Sp.h ?_ | refine Lk.r rfl ?_ | refine Rf.mk rfl ?_ | (apply Bd.f; (focus (first | assumption | omega | exact Bool.false_ne_true))) | (apply Nm.r; (focus repeat (first | apply LN.cons | exact LN.nil))) | fail)
      exact ⟨_, _, .one (.same (.nil (by (repeat (first | exact Subl.nil | refine Subl.cons (by (repeat (first | exact Take.here | apply Take.there))) ?_))))), rfl, v, rfl⟩
    · repeat' (first | refine Sp.h ?_ | refine Lk.r rfl ?_ | refine Rf.mk rfl ?_ | (apply Bd.t; (focus (first | assumption | omega | rfl))) | (apply Ov.n; (focus first | omega | (simp <;> omega))) | fail)
      exact PA.lp 2 ⟨by (repeat (first | exact trivial | refine ⟨rfl, ?_⟩)), by (repeat (first | exact Subl.nil | refine Subl.cons (by (repeat (first | exact Take.here | apply Take.there))) ?_))⟩ ⟨⟨by omega, fun _ => hL, fun h => by omega, fun h => by omega⟩, by omega⟩
  | 2, _ =>
    have hq : (fnL x)[2]? = some [AV.fb 92 [pm x]] := rfl
    have hL := i2 (by omega)
    have hc := sadd_a x s m b v w e (wI m w e 2) hm hw.st (fun hk => ⟨act_rng h1.1 hk, h1.2.2 hk⟩)
    repeat' (first | refine Sp.h ?_ | refine Lk.r rfl ?_ | refine Rf.mk rfl ?_ | (apply Bd.t; (focus (first | assumption | omega | rfl))) | (apply TkA.r; (focus (repeat (first | exact Take.here | apply Take.there)))) | (apply Ix.q; (focus exact rfl); (focus assumption)) | (apply At.r; (focus assumption)) | fail)
    (apply Cl.use (hc); (focus repeat' (first | exact Lend.nil | apply Lend.keep | fail)); (focus (repeat (first | exact Takes.nil | (apply Takes.cons; (focus (repeat (first | exact Take.here | apply Take.there))))))); (focus rfl))
    rintro _ _ (⟨hk, hL2, rfl, rfl⟩ | ⟨hL2, rfl, rfl⟩)
    · have hF : deliverF m evl w e = (2, w) := by rw [deliverF, if_neg (fun h => h h1), if_neg h2, if_neg (fun h => h h3), if_neg hL, if_pos ⟨hk, hL2⟩]
      rw [evsD, hF]
      repeat' (first | refine Sp.h ?_ | refine Lk.r rfl ?_ | refine Rf.mk rfl ?_ | (apply Bd.f; (focus (first | assumption | omega | exact Bool.false_ne_true))) | (apply Nm.r; (focus repeat (first | apply LN.cons | exact LN.nil))) | fail)
      exact ⟨_, _, .one (.same (.nil (by (repeat (first | exact Subl.nil | refine Subl.cons (by (repeat (first | exact Take.here | apply Take.there))) ?_))))), rfl, v, rfl⟩
    · repeat' (first | refine Sp.h ?_ | refine Lk.r rfl ?_ | refine Rf.mk rfl ?_ | (apply Bd.t; (focus (first | assumption | omega | rfl))) | (apply Ov.n; (focus first | omega | (simp <;> omega))) | fail)
      exact PA.lp 3 ⟨by (repeat (first | exact trivial | refine ⟨rfl, ?_⟩)), by (repeat (first | exact Subl.nil | refine Subl.cons (by (repeat (first | exact Take.here | apply Take.there))) ?_))⟩ ⟨⟨by omega, fun _ => hL, fun _ => hL2, fun h => by omega⟩, by omega⟩
  | 3, _ =>
    have hq : (fnL x)[3]? = some [AV.fb 93 [pm x]] := rfl
    have hL := i2 (by omega)
    have hL2 := i3 (by omega)
    have hc := update_a x s m b v w e (wI m w e 3) hm
    by_cases hA : (applyF m w.merged e).1 = 0
    · repeat' (first | refine Sp.h ?_ | refine Lk.r rfl ?_ | refine Rf.mk rfl ?_ | (apply Bd.t; (focus (first | assumption | omega | rfl))) | (apply TkA.r; (focus (repeat (first | exact Take.here | apply Take.there)))) | (apply Ix.q; (focus exact rfl); (focus assumption)) | (apply At.r; (focus assumption)) | fail)
      (apply Cl.use (hc); (focus repeat' (first | exact Lend.nil | apply Lend.keep | fail)); (focus (repeat (first | exact Takes.nil | (apply Takes.cons; (focus (repeat (first | exact Take.here | apply Take.there))))))); (focus rfl))
      rintro _ _ ⟨rfl, rfl⟩
      simp only [wI]
      repeat' (first | refine Sp.h ?_ | refine Lk.r rfl ?_ | refine Rf.mk rfl ?_ | (apply Bd.t; (focus (first | assumption | omega | rfl))) | (apply Ov.n; (focus first | omega | (simp <;> omega))) | fail)
      exact PA.lp 4 ⟨by (repeat (first | exact trivial | refine ⟨rfl, ?_⟩)), by (repeat (first | exact Subl.nil | refine Subl.cons (by (repeat (first | exact Take.here | apply Take.there))) ?_))⟩ ⟨⟨by omega, fun _ => hL, fun _ => hL2, fun _ => hA⟩, by omega⟩
    · have hF : deliverF m evl w e = ((applyF m w.merged e).1, w) := by rw [deliverF, if_neg (fun h => h h1), if_neg h2, if_neg (fun h => h h3), if_neg hL, if_neg hL2, if_pos hA]
      rw [evsD, hF]
      repeat' (first | refine Sp.h ?_ | refine Lk.r rfl ?_ | refine Rf.mk rfl ?_ | (apply Bd.t; (focus (first | assumption | omega | rfl))) | (apply TkA.r; (focus (repeat (first | exact Take.here | apply Take.there)))) | (apply Ix.q; (focus exact rfl); (focus assumption)) | (apply At.r; (focus assumption)) | fail)
      (apply Cl.use (hc); (focus repeat' (first | exact Lend.nil | apply Lend.keep | fail)); (focus (repeat (first | exact Takes.nil | (apply Takes.cons; (focus (repeat (first | exact Take.here | apply Take.there))))))); (focus rfl))
      rintro _ _ ⟨rfl, rfl⟩
      simp only [wI]
      rw [if_neg hA]
      repeat' (first | refine Sp.h ?_ | refine Lk.r rfl ?_ | refine Rf.mk rfl ?_ | (apply Bd.f; (focus (first | assumption | omega | exact Bool.false_ne_true))) | (apply Nm.r; (focus repeat (first | apply LN.cons | exact LN.nil))) | fail)
      exact ⟨_, _, .one (.same (.nil (by (repeat (first | exact Subl.nil | refine Subl.cons (by (repeat (first | exact Take.here | apply Take.there))) ?_))))), rfl, v, rfl⟩
  | 4, _ =>
    have hq : (fnL x)[4]? = some [AV.fb 94 [pm x]] := rfl
    have hc := place_a x s e (wI m w e 4) hw.pls hw.pll
    repeat' (first | refine Sp.h ?_ | refine Lk.r rfl ?_ | refine Rf.mk rfl ?_ | (apply Bd.t; (focus (first | assumption | omega | rfl))) | (apply TkA.r; (focus (repeat (first | exact Take.here | apply Take.there)))) | (apply Ix.q; (focus exact rfl); (focus assumption)) | (apply At.r; (focus assumption)) | fail)
    (apply Cl.use (hc); (focus repeat' (first | exact Lend.nil | apply Lend.keep | fail)); (focus (repeat (first | exact Takes.nil | (apply Takes.cons; (focus (repeat (first | exact Take.here | apply Take.there))))))); (focus rfl))
    rintro _ _ ⟨rfl, rfl⟩
    repeat' (first | refine Sp.h ?_ | refine Lk.r rfl ?_ | refine Rf.mk rfl ?_ | (apply Bd.t; (focus (first | assumption | omega | rfl))) | (apply Ov.n; (focus first | omega | (simp <;> omega))) | fail)
    exact PA.lp 5 ⟨by (repeat (first | exact trivial | refine ⟨rfl, ?_⟩)), by (repeat (first | exact Subl.nil | refine Subl.cons (by (repeat (first | exact Take.here | apply Take.there))) ?_))⟩ ⟨⟨by omega, fun _ => i2 (by omega), fun _ => i3 (by omega), fun _ => i4 (by omega)⟩, by omega⟩
  | 5, _ =>
    have hL := i2 (by omega)
    have hL2 := i3 (by omega)
    have hA := i4 (by omega)
    have hF : deliverF m evl w e = (0, wI m w e 5) := by rw [deliverF, if_neg (fun h => h h1), if_neg h2, if_neg (fun h => h h3), if_neg hL, if_neg hL2, if_neg (fun h => h hA)]; rfl
    have hpl := h1.1.1.2.2
    have hce := cloneEs_p [e] (by simp) (fun d hd => by rw [List.mem_singleton.1 hd]; omega)
    rw [evsD, hF, if_pos rfl]
    repeat' (first | refine Sp.h ?_ | refine Lk.r rfl ?_ | refine Rf.mk rfl ?_ | (apply Bd.f; (focus (first | assumption | omega | exact Bool.false_ne_true))) | refine OpK.r rfl ?_ | (refine All.mk ?_; intro _) | (apply TkB.r; (focus (repeat (first | exact Take.here | apply Take.there)))) | refine Ch.l ⟨rfl, rfl⟩ ?_ | refine Ch.r ?_ | (apply SetAsk.r; (focus (repeat (first | exact SetAs.z | (apply SetAs.c; (focus (repeat (first | assumption | exact SetA.z | apply SetA.s)))))))) | (apply Fk.r; (focus (repeat (first | exact FillA.nil | (apply FillA.agg; (focus rfl); (focus rfl); (focus (repeat (first | exact SetAs.z | (apply SetAs.c; (focus (repeat (first | assumption | exact SetA.z | apply SetA.s)))))))) | (apply FillA.one; (focus rfl); (focus infer_instance); (focus (repeat (first | assumption | exact SetA.z | apply SetA.s)))))))) | refine Rf.mk ⟨rfl, rfl, rfl⟩ ?_ | (apply CA.draw; (focus rfl); (focus kernel_rfl); (focus kernel_rfl); (focus repeat' (first | apply ON.one | exact ON.done | exact ON.none | apply ON.alt)); (focus rfl)) | fail)
    apply Cl.fx [evs [e]]
    focus (apply FX.sl; (focus (repeat (first | exact Take.here | apply Take.there))); (focus exact Nat.le_of_ble_eq_true rfl); (focus exact FX.le (ALe.refl _) FX.nil); (focus exact FX.nil))
    repeat' (first | refine Sp.h ?_ | refine Lk.r rfl ?_ | refine Rf.mk rfl ?_ | refine OpK.r rfl ?_ | (apply Om.mk; (focus first | omega | (simp <;> omega))) | (refine All.mk ?_; intro _) | (apply TkA.r; (focus (repeat (first | exact Take.here | apply Take.there)))) | (apply TkB.r; (focus (repeat (first | exact Take.here | apply Take.there)))) | refine Ce.r ?_ | (apply SetAk.r; (focus (repeat (first | assumption | exact SetA.z | apply SetA.s)))) | (apply Nm.r; (focus repeat (first | apply LN.cons | exact LN.nil))) | refine Rf.mk ⟨rfl, rfl⟩ ?_ | refine Mp.same ?_ | fail | (apply Cl.p (hce); (focus repeat' (first | exact Lend.nil | apply Lend.keep | fail))))
    exact ⟨_, _, .one (.same (.nil (by (repeat (first | exact Subl.nil | refine Subl.cons (by (repeat (first | exact Take.here | apply Take.there))) ?_))))), rfl, _, rfl⟩
end Go.Proofs.YtmllihbhphnolaaGreat
namespace Go.CF
open Go
section
variable {Γ : Cx} {k : List KI} {e : EA} {o : List Res} {N : NA} {c : Cls} {d : Tmp} {ty : TypeId} {x y z : Operand} {t u : TypeId} {kk : IntKind} {i : Int}
theorem ALe.agg {l m : List AV} (r : RLe l m) : ALe (.agg l) (.agg m) := ⟨fun ⟨vs, h1, h2⟩ => ⟨vs, h1, ⟨r.rep h2.t, h2.one⟩⟩⟩
end

/-! ### The library's sorts -/
section
open Go.Sort
open Go.Proofs in
end
end Go.CF
namespace Go.Proofs.YtmllihbhphnolaaGreat
open Go Go.CF
set_option maxRecDepth 20000
/-- What is of a size that can be cloned. -/
structure SzN (b : NowS) : Prop where
  c : b.clock.length ≤ 100000
  s : b.state.length ≤ 100000
  m : b.merged.length ≤ 100000
  k : ∀ g ∈ b.merged, g.marks.length ≤ 1000000
  p : b.places.length ≤ 100000
set_option maxHeartbeats 2000000 in
theorem cloneBase_a (b : NowS) (r s : AV) (h : SzN b) :
    CallA Tryz.prog 106 [.agg [ints b.clock, it b.time, ints b.state, mgs b.merged, r, s, ints b.places]] [] fun q own => ∃ v1 v2 v3 L v4, q = .agg [.ow v1, it b.time, .ow v2, .ow v3, nl0, nl0, .ow v4] ∧ L.map MgE.g = b.merged ∧
      own = [arrR v4 3 1 b.places intC, arrR v3 123 3 L mgeC, bunR (L.map mgeR), arrR v2 3 1 b.state intC, arrR v1 3 1 b.clock intC] := by
  have h1 := clone_o b.clock (by have := h.c; omega)
  have h2 := clone_o b.state (by have := h.s; omega)
  have h3 := cloneM_a b.merged (by have := h.m; omega) h.k
  have h4 := clone_o b.places (by have := h.p; omega)
  refine CallA.of pg ord106 Tryz.func106 rfl Tryz.ntmps106 Tryz.results106 rfl fun h0 G0 O0 => ?_
  repeat' (first | refine Sp.h ?_ | refine Lk.r rfl ?_ | refine Rf.mk rfl ?_ | refine OpK.r rfl ?_ | (refine All.mk ?_; intro _) | (apply TkB.r; (focus (repeat (first | exact Take.here | apply Take.there)))) | (apply Nm.r; (focus repeat (first | apply LN.cons | exact LN.nil))) | (apply CA.draw; (focus rfl); (focus kernel_rfl); (focus kernel_rfl); (focus repeat' (first | apply ON.one | exact ON.done | exact ON.none | apply ON.alt)); (focus rfl)) | fail)
  (refine Cl.use (h1) (by repeat' (first | exact Lend.nil | apply Lend.keep | fail)) .nil rfl ?_; rintro _ _ ⟨_, rfl, rfl⟩)
  repeat' (first | refine Sp.h ?_ | refine Lk.r rfl ?_ | refine Rf.mk rfl ?_ | refine OpK.r rfl ?_ | fail)
  (refine Cl.use (h2) (by repeat' (first | exact Lend.nil | apply Lend.keep | fail)) .nil rfl ?_; rintro _ _ ⟨_, rfl, rfl⟩)
  repeat' (first | refine Sp.h ?_ | refine Lk.r rfl ?_ | refine Rf.mk rfl ?_ | refine OpK.r rfl ?_ | fail)
  (apply Cl.use (h3); (focus repeat' (first | exact Lend.nil | apply Lend.keep | fail)); (focus (repeat (first | exact Takes.nil | (apply Takes.cons; (focus (repeat (first | exact Take.here | apply Take.there))))))); (focus rfl))
  rintro _ _ ⟨v3, L, rfl, hL, rfl⟩
  repeat' (first | refine Sp.h ?_ | refine Lk.r rfl ?_ | refine Rf.mk rfl ?_ | refine OpK.r rfl ?_ | fail)
  (refine Cl.use (h4) (by repeat' (first | exact Lend.nil | apply Lend.keep | fail)) .nil rfl ?_; rintro _ _ ⟨_, rfl, rfl⟩)
  repeat' (first | refine Sp.h ?_ | refine Lk.r rfl ?_ | refine Rf.mk rfl ?_ | refine OpK.r rfl ?_ | (apply TkB.r; (focus (repeat (first | exact Take.here | apply Take.there)))) | (apply SetAsk.r; (focus (repeat (first | exact SetAs.z | (apply SetAs.c; (focus (repeat (first | assumption | exact SetA.z | apply SetA.s)))))))) | (apply Fk.r; (focus (repeat (first | exact FillA.nil | (apply FillA.agg; (focus rfl); (focus rfl); (focus (repeat (first | exact SetAs.z | (apply SetAs.c; (focus (repeat (first | assumption | exact SetA.z | apply SetA.s)))))))) | (apply FillA.one; (focus rfl); (focus infer_instance); (focus (repeat (first | assumption | exact SetA.z | apply SetA.s)))))))) | (apply Nm.r; (focus repeat (first | apply LN.cons | exact LN.nil))) | fail)
  exact ⟨_, _, .one (.same (.nil (by (repeat (first | exact Subl.nil | refine Subl.cons (by (repeat (first | exact Take.here | apply Take.there))) ?_))))), _, _, _, L, _, rfl, hL, rfl⟩
theorem cloneBase_p (b : NowS) (r s : AV) (h : SzN b) : CallP Tryz.prog 106 [.agg [ints b.clock, it b.time, ints b.state, mgs b.merged, r, s, ints b.places]] (basA b) := by
  refine CallA.fx (cloneBase_a b r s h) ?_
  rintro q o ⟨v1, v2, v3, L, v4, rfl, hL, rfl⟩
  have := h.c; have := h.s; have := h.m; have := h.p
  have hk : ∀ x ∈ L, x.marks.length ≤ 1000000 := fun x hx => h.k x.g (by rw [← hL]; exact List.mem_map_of_mem hx)
  have hLl : L.length ≤ 1000000 := by have := congrArg List.length hL; simp at this; omega
  rw [show basA b = .agg [ints b.clock, it b.time, ints b.state, mgs (L.map MgE.g), nl0, nl0, ints b.places] by rw [hL]]
  refine .agg ?_ .nil
  refine FX.s1 (T := 3) (by (repeat (first | exact Take.here | apply Take.there))) (by omega) (FX.k (FX.s1 (T := 3) (by (repeat (first | exact Take.here | apply Take.there))) (by omega) ?_))
  refine out_fx2 (by (repeat (first | exact Take.here | apply Take.there))) (by (repeat (first | exact Take.here | apply Take.there))) hLl hk (FX.k (FX.k (FX.s1 (T := 3) (by (repeat (first | exact Take.here | apply Take.there))) (by omega) .nil)))
set_option maxHeartbeats 2000000 in
theorem open_a (m : ModS) (b : NowS) (r s : AV) (h : SzN b) :
    CallA Tryz.prog 120 [mdl m, .agg [ints b.clock, it b.time, ints b.state, mgs b.merged, r, s, ints b.places]] [] fun q own => ∃ p v, q = pm p ∧ own = [stoR p m b v b, arrR v 37 13 ([] : List EvS) evC] := by
  have h1 := cloneBase_p b r s h
  have h2 := cloneBase_p b nl0 nl0 h
  refine CallA.own (K := fun q own => ∃ p, q = pm p ∧ own = [blkR p 165 [ints m.sorts, tbls m.tables, .sl 1 m.families strC, .sl 6 m.cons cnsC, .sl 3 m.ops opC, .sl 5 m.acts actC, .sl 3 m.hides updC, ints b.clock, it b.time, ints b.state, mgs b.merged, nl0, nl0, ints b.places, nl0, ints b.clock, it b.time, ints b.state, mgs b.merged, ints b.places]]) ?_ ?_
  · refine CallA.of pg ord120 Tryz.func120 rfl Tryz.ntmps120 Tryz.results120 rfl fun h0 G0 O0 => ?_
    repeat' (first | refine Sp.h ?_ | refine Lk.r rfl ?_ | refine Rf.mk rfl ?_ | (refine All.mk ?_; intro _) | (apply TkB.r; (focus (repeat (first | exact Take.here | apply Take.there)))) | refine Ch.l ⟨rfl, rfl⟩ ?_ | (apply SetAsk.r; (focus (repeat (first | exact SetAs.z | (apply SetAs.c; (focus (repeat (first | assumption | exact SetA.z | apply SetA.s)))))))) | (apply Fk.r; (focus (repeat (first | exact FillA.nil | (apply FillA.agg; (focus rfl); (focus rfl); (focus (repeat (first | exact SetAs.z | (apply SetAs.c; (focus (repeat (first | assumption | exact SetA.z | apply SetA.s)))))))) | (apply FillA.one; (focus rfl); (focus infer_instance); (focus (repeat (first | assumption | exact SetA.z | apply SetA.s)))))))) | (apply Nm.r; (focus repeat (first | apply LN.cons | exact LN.nil))) | fail | (apply Cl.p (h1); (focus ((repeat' (first | exact Lend.nil | apply Lend.keep | apply Lend.agg | fail)); done))) | (apply Cl.p (h2); (focus ((repeat' (first | exact Lend.nil | apply Lend.keep | apply Lend.agg | fail)); done))))
    exact ⟨_, _, .one (.same (.nil (by (repeat (first | exact Subl.nil | refine Subl.cons (by (repeat (first | exact Take.here | apply Take.there))) ?_))))), _, rfl, rfl⟩
  · rintro _ _ ⟨p, rfl, rfl⟩
    refine ⟨[stoR p m b (.slice none 0 0) b, arrR (.slice none 0 0) 37 13 ([] : List EvS) evC], ?_, p, _, rfl, rfl⟩
    refine (OX.nil _ 37 13 evC).trans (OX.recell (.there .here) _ ?_)
    (repeat' (first | exact RLe.nil | (apply RLe.cons; (focus first | exact ALe.refl _ | exact ALe.nilow | exact ALe.nil))))
set_option maxHeartbeats 2000000 in
theorem new35_a (m : ModS) (n : Nat) (ld : List Int) (hm : MOK m) (hn : 1 ≤ n ∧ n ≤ 5) (hl : ld.length = strF m) (hs : insS ld) :
    CallA Tryz.prog 77 [mdl m, it n, ints ld] [] fun q own => ∃ p v, q = .tup [pm p, it 0] ∧ own = [stoR p m ⟨List.replicate n 0, 0, ld, List.replicate (mrgF m).length mg0, []⟩ v ⟨List.replicate n 0, 0, ld, List.replicate (mrgF m).length mg0, []⟩, arrR v 37 13 ([] : List EvS) evC] := by
  have h1 := cells35_p m hm.lay
  have h2 := inside35_p ld
  rw [decide_eq_true hs] at h2
  have h3 : CallP Tryz.prog 32 [it n] (ints (List.replicate n 0)) := CallA.fz (T := 3) (by simp; omega) (by have := zero_ok (n : Int) (by omega); rwa [Int.toNat_natCast] at this)
  have h4 := new_p m hm.lay
  have := hm.str; have := hm.mrg
  have h5 := open_a m ⟨List.replicate n 0, 0, ld, List.replicate (mrgF m).length mg0, []⟩ nl0 nl0 ⟨by simp; omega, by simp only; omega, by simp; omega, fun g hg => by rw [(List.mem_replicate.1 hg).2]; simp [mg0], by simp⟩
  have h6 : CallA Tryz.prog 120 [mdl m, .agg [ints (List.replicate n 0), it 0, ints ld, mgs (List.replicate (mrgF m).length mg0), nl0, nl0, nl0]] [] fun q own => ∃ p v, q = pm p ∧ own = [stoR p m ⟨List.replicate n 0, 0, ld, List.replicate (mrgF m).length mg0, []⟩ v ⟨List.replicate n 0, 0, ld, List.replicate (mrgF m).length mg0, []⟩, arrR v 37 13 ([] : List EvS) evC] := by
    refine CallA.args (RLe.cons (ALe.refl _) (RLe.cons (ALe.agg ?_) .nil)) h5
    (repeat' (first | exact RLe.nil | (apply RLe.cons; (focus first | exact ALe.refl _ | exact ALe.nilow | exact ALe.nil))))
  refine CallA.of pg ord77 Tryz.func77 rfl Tryz.ntmps77 Tryz.results77 rfl fun h0 G0 O0 => ?_
  repeat' (first | refine Sp.h ?_ | refine Lk.r rfl ?_ | refine Rf.mk rfl ?_ | (apply Bd.t; (focus (first | assumption | omega | rfl))) | (apply Bd.f; (focus (first | assumption | omega | exact Bool.false_ne_true))) | refine OpK.r rfl ?_ | (refine Im.mk ?_; intro _) | (refine All.mk ?_; intro _) | (apply TkB.r; (focus (repeat (first | exact Take.here | apply Take.there)))) | refine Ch.l ⟨rfl, rfl⟩ ?_ | (apply Fk.r; (focus (repeat (first | exact FillA.nil | (apply FillA.agg; (focus rfl); (focus rfl); (focus (repeat (first | exact SetAs.z | (apply SetAs.c; (focus (repeat (first | assumption | exact SetA.z | apply SetA.s)))))))) | (apply FillA.one; (focus rfl); (focus infer_instance); (focus (repeat (first | assumption | exact SetA.z | apply SetA.s)))))))) | (apply CA.draw; (focus rfl); (focus kernel_rfl); (focus kernel_rfl); (focus repeat' (first | apply ON.one | exact ON.done | exact ON.none | apply ON.alt)); (focus rfl)) | fail | (apply Cl.p (h1); (focus ((repeat' (first | exact Lend.nil | apply Lend.keep | fail)); done))) | (apply Cl.p (h2); (focus ((repeat' (first | exact Lend.nil | apply Lend.keep | fail)); done))) | (apply Cl.p (h3); (focus ((repeat' (first | exact Lend.nil | apply Lend.keep | fail)); done))) | (apply Cl.p (h4); (focus ((repeat' (first | exact Lend.nil | apply Lend.keep | fail)); done))))
  (apply Cl.use (h6); (focus repeat' (first | exact Lend.nil | apply Lend.keep | fail)); (focus (repeat (first | exact Takes.nil | (apply Takes.cons; (focus (repeat (first | exact Take.here | apply Take.there))))))); (focus rfl))
  rintro _ _ ⟨p, v, rfl, rfl⟩
  repeat' (first | refine Sp.h ?_ | refine Lk.r rfl ?_ | refine OpK.r rfl ?_ | (apply Nm.r; (focus repeat (first | apply LN.cons | exact LN.nil))) | fail)
  exact ⟨_, _, .tup (.same (.same (.nil (by (repeat (first | exact Subl.nil | refine Subl.cons (by (repeat (first | exact Take.here | apply Take.there))) ?_)))))), p, v, rfl, rfl⟩
end Go.Proofs.YtmllihbhphnolaaGreat
namespace Go.Proofs.YtmllihbhphnolaaGreat
open Go Go.CF
set_option maxRecDepth 20000
abbrev i1 : Int → List AV := fun x => [.val (.int .i64 x)]
def srtI (l : List Int) : List Int := l.mergeSort fun x y => decide (x ≤ y)
/-- A list without what equals what stands ahead of it. -/
noncomputable def ddN {α : Type} (l : List α) : Nat → List α
  | 0 => []
  | i + 1 => @ite _ (0 < i ∧ l[i]? = l[i - 1]?) (Classical.propDecidable _) (ddN l i) (ddN l i ++ l[i]?.toList)
noncomputable def dd {α : Type} (l : List α) : List α := ddN l l.length
theorem ddN_eq {α : Type} {l : List α} {i : Nat} (h0 : 0 < i) (h : l[i]? = l[i - 1]?) : ddN l (i + 1) = ddN l i := by
  rw [ddN]; exact @if_pos _ (Classical.propDecidable _) ⟨h0, h⟩ _ _ _
theorem ddN_ne {α : Type} {l : List α} {i : Nat} {x : α} (hx : l[i]? = some x) (h : 0 < i → l[i]? ≠ l[i - 1]?) : ddN l (i + 1) = ddN l i ++ [x] := by
  rw [ddN, hx]
  exact @if_neg _ (Classical.propDecidable _) (fun e => h e.1 (by rw [hx]; exact e.2)) _ _ _
theorem ddN_len {α : Type} {l : List α} : ∀ i, (ddN l i).length ≤ i
  | 0 => Nat.le_refl _
  | i + 1 => by
    have := ddN_len (l := l) i
    rw [ddN]
    cases l[i]? <;> (split <;> simp <;> omega)
end Go.Proofs.YtmllihbhphnolaaGreat
namespace Go.Proofs.YtmllihbhphnolaaGreat
open Go Go.CF
set_option maxRecDepth 20000
noncomputable def srtD (l : List Int) : List Int := dd (srtI l)
theorem srtI_len (l : List Int) : (srtI l).length = l.length := by simp [srtI]
theorem srtD_len (l : List Int) : (srtD l).length ≤ l.length := by
  have := ddN_len (l := srtI l) (srtI l).length
  rw [srtI_len] at this
  rw [srtD, dd, srtI_len]; exact this
/-- In increasing order, and of the same members. -/
def SI (l s : List Int) : Prop := s.Pairwise (· < ·) ∧ ∀ x, x ∈ s ↔ x ∈ l
theorem SI.uniq {l s t : List Int} (g1 : SI l s) (g2 : SI l t) : s = t := by
  have key : ∀ s t : List Int, s.Pairwise (· < ·) → t.Pairwise (· < ·) → (∀ x, x ∈ s ↔ x ∈ t) → s = t := by
    intro s
    induction s with
    | nil =>
      intro t _ _ h
      cases t with
      | nil => rfl
      | cons b t => exact absurd ((h b).2 (by simp)) (by simp)
    | cons a s ih =>
      intro t hs ht h
      cases t with
      | nil => exact absurd ((h a).1 (by simp)) (by simp)
      | cons b t =>
        obtain ⟨h1, h2⟩ := List.pairwise_cons.1 hs
        obtain ⟨h3, h4⟩ := List.pairwise_cons.1 ht
        have hab : a = b := by
          rcases List.mem_cons.1 ((h a).1 (by simp)) with e | e
          · exact e
          · rcases List.mem_cons.1 ((h b).2 (by simp)) with e2 | e2
            · exact e2.symm
            · have := h1 b e2; have := h3 a e; omega
        subst hab
        rw [ih t h2 h4 fun x => ?_]
        have := h x
        simp only [List.mem_cons] at this
        constructor
        · intro hx
          rcases this.1 (.inr hx) with e | e
          · subst e; have := h1 _ hx; omega
          · exact e
        · intro hx
          rcases this.2 (.inr hx) with e | e
          · subst e; have := h3 _ hx; omega
          · exact e
  exact key _ _ g1.1 g2.1 fun x => (g1.2 x).trans (g2.2 x).symm
theorem srtI_sorted (l : List Int) : (srtI l).Pairwise (· ≤ ·) := by
  have := List.pairwise_mergeSort (le := fun x y : Int => decide (x ≤ y)) (fun a b c h1 h2 => by simp at *; omega) (fun a b => by simp; omega) l
  exact this.imp fun h => by simpa using h
theorem srtD_si (l : List Int) : SI l (srtD l) := by
  have hs := srtI_sorted l
  have hm : ∀ x, x ∈ srtI l ↔ x ∈ l := fun x => List.mem_mergeSort
  suffices key : ∀ i, i ≤ (srtI l).length → (ddN (srtI l) i).Pairwise (· < ·) ∧ (∀ x, x ∈ ddN (srtI l) i ↔ x ∈ (srtI l).take i) by
    obtain ⟨h1, h2⟩ := key _ (Nat.le_refl _)
    rw [List.take_length] at h2
    exact ⟨h1, fun x => (h2 x).trans (hm x)⟩
  intro i
  induction i with
  | zero => intro _; exact ⟨List.Pairwise.nil, fun x => by simp [ddN]⟩
  | succ i ih =>
    intro hi
    obtain ⟨h1, h2⟩ := ih (by omega)
    obtain ⟨x, hx⟩ := get_of (l := srtI l) (i := i) (by omega)
    have ht : (srtI l).take (i + 1) = (srtI l).take i ++ [x] := by rw [List.take_add_one, hx]; rfl
    by_cases hc : 0 < i ∧ (srtI l)[i]? = (srtI l)[i - 1]?
    · rw [ddN_eq hc.1 hc.2, ht]
      refine ⟨h1, fun y => (h2 y).trans ?_⟩
      have hxm : x ∈ (srtI l).take i := List.mem_of_getElem? (i := i - 1) (by rw [List.getElem?_take, if_pos (by omega), ← hc.2, hx])
      simp only [List.mem_append, List.mem_singleton]
      exact ⟨.inl, fun h => h.elim id fun e => e ▸ hxm⟩
    · rw [ddN_ne hx (fun h0 e => hc ⟨h0, e⟩), ht]
      refine ⟨List.pairwise_append.2 ⟨h1, by simp, fun a ha b hb => ?_⟩, fun y => by simp [h2]⟩
      have hb : b = x := by simpa using hb
      subst hb
      have ha := (h2 a).1 ha
      obtain ⟨j, hj⟩ := List.getElem?_of_mem ha
      have hjl : j < i := by have := (List.getElem?_eq_some_iff.1 hj).1; simp at this; omega
      rw [List.getElem?_take, if_pos hjl] at hj
      have hle : ∀ (p q : Nat) (u v : Int), p ≤ q → (srtI l)[p]? = some u → (srtI l)[q]? = some v → u ≤ v := fun p q u v hpq hu hv => by
        by_cases he : p = q
        · subst he; rw [hu] at hv; cases hv; omega
        · obtain ⟨p1, rfl⟩ := List.getElem?_eq_some_iff.1 hu
          obtain ⟨q1, rfl⟩ := List.getElem?_eq_some_iff.1 hv
          exact List.pairwise_iff_getElem.1 hs p q p1 q1 (by omega)
      obtain ⟨z, hz⟩ := get_of (l := srtI l) (i := i - 1) (by omega)
      have h3 := hle j (i - 1) a z (by omega) hj hz
      have h4 := hle (i - 1) i z b (by omega) hz hx
      have h5 : b ≠ z := fun e => hc ⟨by omega, by rw [hx, hz, e]⟩
      omega
end Go.Proofs.YtmllihbhphnolaaGreat
namespace Go.Proofs.YtmllihbhphnolaaGreat
open Go Go.CF
set_option maxRecDepth 20000
theorem si_keep {l s : List Int} {x : Int} (h : SI l s) (hx : x ∈ s) : SI (l ++ [x]) s :=
  ⟨h.1, fun y => by
    rw [List.mem_append, List.mem_singleton, h.2]
    exact ⟨.inl, fun e => e.elim id fun e => e ▸ (h.2 x).1 hx⟩⟩
end Go.Proofs.YtmllihbhphnolaaGreat
namespace Go.Proofs.YtmllihbhphnolaaGreat
open Go Go.CF
set_option maxRecDepth 20000
theorem clone_z (l : List Int) (hl : l.length ≤ 1000000000) : CallP Tryz.prog 83 [ints l] (ints l) := CallA.fz (by omega) (clone_o l hl)
end Go.Proofs.YtmllihbhphnolaaGreat
namespace Go.Proofs.YtmllihbhphnolaaGreat
open Go Go.CF
set_option maxRecDepth 20000
section
variable (s : Nat) (m : ModS) (b : NowS) (v : Value) (w : NowS)
theorem sclock_a (h : w.clock.length ≤ 100000) : CallA Tryz.prog 16 [pm s] [stoR s m b v w] fun r own => ∃ u, r = .ow u ∧ own = [arrR u 3 1 w.clock intC, stoR s m b v w] := by
  have h1 := clone_o w.clock (by omega)
  refine CallA.of pg ord16 Tryz.func16 rfl Tryz.ntmps16 Tryz.results16 rfl fun h0 G0 O0 => ?_
  repeat' (first | refine Sp.h ?_ | refine Lk.r rfl ?_ | refine Rf.mk rfl ?_ | (apply TkB.r; (focus (repeat (first | exact Take.here | apply Take.there)))) | fail)
  (refine Cl.use (h1) (by repeat' (first | exact Lend.nil | apply Lend.keep | fail)) .nil rfl ?_; rintro _ _ ⟨_, rfl, rfl⟩)
  repeat' (first | refine Sp.h ?_ | refine Lk.r rfl ?_ | (apply Nm.r; (focus repeat (first | apply LN.cons | exact LN.nil))) | fail)
  exact ⟨_, _, .one (.same (.nil (by (repeat (first | exact Subl.nil | refine Subl.cons (by (repeat (first | exact Take.here | apply Take.there))) ?_))))), _, rfl, rfl⟩
theorem sclock_p (h : w.clock.length ≤ 100000) : CallA Tryz.prog 16 [pm s] [stoR s m b v w] fun r own => r = ints w.clock ∧ own = [stoR s m b v w] :=
  CallA.fxr (sclock_a s m b v w h) (by rintro _ _ ⟨u, rfl, rfl⟩; exact ⟨_, _, FX.s1 .here (by omega) .nil, rfl, rfl⟩)
theorem sstate_a (h : w.state.length ≤ 100000) : CallA Tryz.prog 52 [pm s] [stoR s m b v w] fun r own => ∃ u, r = .ow u ∧ own = [arrR u 3 1 w.state intC, stoR s m b v w] := by
  have h1 := clone_o w.state (by omega)
  refine CallA.of pg ord52 Tryz.func52 rfl Tryz.ntmps52 Tryz.results52 rfl fun h0 G0 O0 => ?_
  repeat' (first | refine Sp.h ?_ | refine Lk.r rfl ?_ | refine Rf.mk rfl ?_ | (apply TkB.r; (focus (repeat (first | exact Take.here | apply Take.there)))) | fail)
  (refine Cl.use (h1) (by repeat' (first | exact Lend.nil | apply Lend.keep | fail)) .nil rfl ?_; rintro _ _ ⟨_, rfl, rfl⟩)
  repeat' (first | refine Sp.h ?_ | refine Lk.r rfl ?_ | (apply Nm.r; (focus repeat (first | apply LN.cons | exact LN.nil))) | fail)
  exact ⟨_, _, .one (.same (.nil (by (repeat (first | exact Subl.nil | refine Subl.cons (by (repeat (first | exact Take.here | apply Take.there))) ?_))))), _, rfl, rfl⟩
theorem sstate_p (h : w.state.length ≤ 100000) : CallA Tryz.prog 52 [pm s] [stoR s m b v w] fun r own => r = ints w.state ∧ own = [stoR s m b v w] :=
  CallA.fxr (sstate_a s m b v w h) (by rintro _ _ ⟨u, rfl, rfl⟩; exact ⟨_, _, FX.s1 .here (by omega) .nil, rfl, rfl⟩)
theorem stime_p : CallA Tryz.prog 17 [pm s] [stoR s m b v w] fun r own => r = it w.time ∧ own = [stoR s m b v w] := by
  refine CallA.of pg ord17 Tryz.func17 rfl Tryz.ntmps17 Tryz.results17 rfl fun h0 G0 O0 => ?_
  repeat' (first | refine Sp.h ?_ | refine Lk.r rfl ?_ | refine Rf.mk rfl ?_ | (apply TkB.r; (focus (repeat (first | exact Take.here | apply Take.there)))) | (apply Nm.r; (focus repeat (first | apply LN.cons | exact LN.nil))) | fail)
  exact ⟨_, _, .one (.same (.nil (by (repeat (first | exact Subl.nil | refine Subl.cons (by (repeat (first | exact Take.here | apply Take.there))) ?_))))), rfl, rfl⟩
/-- A store that is only read. -/
abbrev stoV (m : ModS) (b : NowS) (l : List EvS) (w : NowS) : List AV := [ints m.sorts, tbls m.tables, .sl 1 m.families strC, .sl 6 m.cons cnsC, .sl 3 m.ops opC, .sl 5 m.acts actC, .sl 3 m.hides updC, ints b.clock, it b.time, ints b.state, mgs b.merged, nl0, nl0, ints b.places, evs l, ints w.clock, it w.time, ints w.state, mgs w.merged, ints w.places]
theorem sevents_r (l : List EvS) (hl : l.length ≤ 1000000) (hm : ∀ e ∈ l, e.past.length ≤ 1000000) : CallA Tryz.prog 63 [.ad (stoV m b l w) 0] [] fun r own => ∃ u L, r = .ow u ∧ L.map EvE.e = l ∧ own = outE u L := by
  have h := cloneEs_a l hl hm
  refine CallA.of pg ord63 Tryz.func63 rfl Tryz.ntmps63 Tryz.results63 rfl fun h0 G0 O0 => ?_
  repeat' (first | refine Sp.h ?_ | refine Lk.r rfl ?_ | refine Rf.mk rfl ?_ | fail)
  (apply Cl.use (h); (focus repeat' (first | exact Lend.nil | apply Lend.keep | fail)); (focus (repeat (first | exact Takes.nil | (apply Takes.cons; (focus (repeat (first | exact Take.here | apply Take.there))))))); (focus rfl))
  rintro _ _ ⟨u, L, rfl, hL, rfl⟩
  repeat' (first | refine Sp.h ?_ | refine Lk.r rfl ?_ | (apply Nm.r; (focus repeat (first | apply LN.cons | exact LN.nil))) | fail)
  exact ⟨_, _, .one (.same (.nil (by (repeat (first | exact Subl.nil | refine Subl.cons (by (repeat (first | exact Take.here | apply Take.there))) ?_))))), u, L, rfl, hL, rfl⟩
theorem sclock_r (l : List EvS) (h : w.clock.length ≤ 100000) : CallO Tryz.prog 16 [.ad (stoV m b l w) 0] 3 1 w.clock intC := by
  have h1 := clone_o w.clock (by omega)
  refine CallA.of pg ord16 Tryz.func16 rfl Tryz.ntmps16 Tryz.results16 rfl fun h0 G0 O0 => ?_
  repeat' (first | refine Sp.h ?_ | refine Lk.r rfl ?_ | refine Rf.mk rfl ?_ | fail)
  (refine Cl.use (h1) (by repeat' (first | exact Lend.nil | apply Lend.keep | fail)) .nil rfl ?_; rintro _ _ ⟨_, rfl, rfl⟩)
  repeat' (first | refine Sp.h ?_ | refine Lk.r rfl ?_ | (apply Nm.r; (focus repeat (first | apply LN.cons | exact LN.nil))) | fail)
  exact ⟨_, _, .one (.same (.nil (by (repeat (first | exact Subl.nil | refine Subl.cons (by (repeat (first | exact Take.here | apply Take.there))) ?_))))), _, rfl, rfl⟩
theorem stime_r (l : List EvS) : CallP Tryz.prog 17 [.ad (stoV m b l w) 0] (it w.time) := by
  refine CallA.of pg ord17 Tryz.func17 rfl Tryz.ntmps17 Tryz.results17 rfl fun h0 G0 O0 => ?_
  repeat' (first | refine Sp.h ?_ | refine Lk.r rfl ?_ | refine Rf.mk rfl ?_ | (apply Nm.r; (focus repeat (first | apply LN.cons | exact LN.nil))) | fail)
  exact Fin.p rfl rfl
theorem sevents_z (l : List EvS) (hl : l.length ≤ 1000000) (hm : ∀ e ∈ l, e.past.length ≤ 1000000) : CallP Tryz.prog 63 [.ad (stoV m b l w) 0] (evs l) := by
  refine CallA.fx (sevents_r m b w l hl hm) ?_
  rintro _ _ ⟨u, L, rfl, hL, rfl⟩
  have h := outE_fx (v := u) (L := L) (o := []) (by have := congrArg List.length hL; simp at this; omega) (fun x hx => hm x.e (by rw [← hL]; exact List.mem_map_of_mem hx)) .nil
  rw [hL] at h
  simpa using h
theorem sclock_z (l : List EvS) (h : w.clock.length ≤ 100000) : CallP Tryz.prog 16 [.ad (stoV m b l w) 0] (ints w.clock) := CallA.fz (by omega) (sclock_r m b w l h)
theorem sbase_r (l : List EvS) (h : SzN b) : CallP Tryz.prog 35 [.ad (stoV m b l w) 0] (basA b) := by
  have h1 := cloneBase_p b nl0 nl0 h
  refine CallA.of pg ord35 Tryz.func35 rfl Tryz.ntmps35 Tryz.results35 rfl fun h0 G0 O0 => ?_
  repeat' (first | refine Sp.h ?_ | refine Lk.r rfl ?_ | refine Rf.mk rfl ?_ | (refine All.mk ?_; intro _) | (apply TkB.r; (focus (repeat (first | exact Take.here | apply Take.there)))) | refine Ch.r ?_ | (apply SetAsk.r; (focus (repeat (first | exact SetAs.z | (apply SetAs.c; (focus (repeat (first | assumption | exact SetA.z | apply SetA.s)))))))) | (apply Nm.r; (focus repeat (first | apply LN.cons | exact LN.nil))) | fail | (apply Cl.p (h1); (focus repeat' (first | exact Lend.nil | apply Lend.keep | fail))))
  exact Fin.p rfl rfl
end
def ev0 : EvS := ⟨0, 0, 0, [], 0, 0, 0, 0, 0, 0, 0, 0, 0⟩
def mkN (w : NowS) (r : Int) (x : EvS) : EvS := ⟨r, (w.clock[r.toNat]?.getD 0) + 1, w.time + 1, w.clock, x.kind, x.action, x.gk, x.gi, x.ge, x.ga, x.to, x.place, x.serial⟩
noncomputable def makeF (m : ModS) (w : NowS) (r : Int) (x : EvS) : Int × EvS :=
  if r < 0 ∨ (w.clock.length : Int) ≤ r then (2, ev0)
  else if 1024 ≤ w.clock[r.toNat]?.getD 0 ∨ 1073741824 ≤ w.time then (8, ev0)
  else if ¬ EvV m (w.clock.length : Nat) (mkN w r x) then (1, ev0)
  else (0, mkN w r x)
set_option maxHeartbeats 4000000 in
theorem smake_a (s : Nat) (m : ModS) (b : NowS) (v : Value) (w : NowS) (r : Int) (x : EvS) (hc : w.clock.length ≤ 5) (hb : ∀ y ∈ w.clock, -1000000 ≤ y) (ht : -1000000 ≤ w.time) :
    CallA Tryz.prog 18 [pm s, it r, evA' x] [stoR s m b v w] fun q own => q = .tup [evA' (makeF m w r x).2, it (makeF m w r x).1] ∧ own = [stoR s m b v w] := by
  have hcl := clone_z w.clock (by omega)
  have hz : ∀ e, CallA Tryz.prog 18 [pm s, it r, evA' x] [stoR s m b v w] (fun q own => q = .tup [.agg [it 0, it 0, it 0, nl0, it 0, it 0, it 0, it 0, it 0, it 0, it 0, it 0, it 0], it e] ∧ own = [stoR s m b v w]) → CallA Tryz.prog 18 [pm s, it r, evA' x] [stoR s m b v w] fun q own => q = .tup [evA' ev0, it e] ∧ own = [stoR s m b v w] := fun e h =>
    CallA.fxr h (by
      rintro _ _ ⟨rfl, rfl⟩
      refine ⟨.tup [evA' ev0, it e], [stoR s m b v w], .tup (.agg ?_ (FX.refl _)) .nil, rfl, rfl⟩
      exact FX.k (FX.k (FX.k (FX.kn (FX.refl _)))))
  by_cases h1 : r < 0 ∨ (w.clock.length : Int) ≤ r
  · rw [makeF, if_pos h1]
    refine hz 2 ?_
    refine CallA.of pg ord18 Tryz.func18 rfl Tryz.ntmps18 Tryz.results18 rfl fun h0 G0 O0 => ?_
    rcases h1 with h1 | h1
    all_goals repeat' (first | refine Sp.h ?_ | refine Lk.r rfl ?_ | refine Rf.mk rfl ?_ | (apply Bd.t; (focus (first | assumption | omega | rfl))) | (apply Bd.f; (focus (first | assumption | omega | exact Bool.false_ne_true))) | (refine Im.mk ?_; intro _) | (refine All.mk ?_; intro _) | (apply TkB.r; (focus (repeat (first | exact Take.here | apply Take.there)))) | (apply SetAsk.r; (focus (repeat (first | exact SetAs.z | (apply SetAs.c; (focus (repeat (first | assumption | exact SetA.z | apply SetA.s)))))))) | (apply Fk.r; (focus (repeat (first | exact FillA.nil | (apply FillA.agg; (focus rfl); (focus rfl); (focus (repeat (first | exact SetAs.z | (apply SetAs.c; (focus (repeat (first | assumption | exact SetA.z | apply SetA.s)))))))) | (apply FillA.one; (focus rfl); (focus infer_instance); (focus (repeat (first | assumption | exact SetA.z | apply SetA.s)))))))) | (apply Nm.r; (focus repeat (first | apply LN.cons | exact LN.nil))) | fail)
    all_goals exact ⟨_, _, .tup (.same (.same (.nil (by (repeat (first | exact Subl.nil | refine Subl.cons (by (repeat (first | exact Take.here | apply Take.there))) ?_)))))), rfl, rfl⟩
  obtain ⟨y, hy⟩ := get_of (l := w.clock) (i := r.toNat) (by omega)
  have hyb := hb y (List.mem_of_getElem? hy)
  have hev := evalid_p m (w.clock.length : Nat) (mkN w r x)
  have hmk : mkN w r x = ⟨r, y + 1, w.time + 1, w.clock, x.kind, x.action, x.gk, x.gi, x.ge, x.ga, x.to, x.place, x.serial⟩ := by rw [mkN, hy]; rfl
  rw [makeF, if_neg h1, hy, Option.getD_some]
  by_cases h2 : 1024 ≤ y ∨ 1073741824 ≤ w.time
  · rw [if_pos h2]
    refine hz 8 ?_
    refine CallA.of pg ord18 Tryz.func18 rfl Tryz.ntmps18 Tryz.results18 rfl fun h0 G0 O0 => ?_
    by_cases h3 : 1024 ≤ y
    · repeat' (first | refine Sp.h ?_ | refine Lk.r rfl ?_ | refine Rf.mk rfl ?_ | (apply Bd.t; (focus (first | assumption | omega | rfl))) | (apply Bd.f; (focus (first | assumption | omega | exact Bool.false_ne_true))) | (refine Im.mk ?_; intro _) | (refine All.mk ?_; intro _) | (apply TkB.r; (focus (repeat (first | exact Take.here | apply Take.there)))) | (apply Ix.r; (focus assumption); (focus omega)) | (apply SetAsk.r; (focus (repeat (first | exact SetAs.z | (apply SetAs.c; (focus (repeat (first | assumption | exact SetA.z | apply SetA.s)))))))) | (apply Fk.r; (focus (repeat (first | exact FillA.nil | (apply FillA.agg; (focus rfl); (focus rfl); (focus (repeat (first | exact SetAs.z | (apply SetAs.c; (focus (repeat (first | assumption | exact SetA.z | apply SetA.s)))))))) | (apply FillA.one; (focus rfl); (focus infer_instance); (focus (repeat (first | assumption | exact SetA.z | apply SetA.s)))))))) | (apply Nm.r; (focus repeat (first | apply LN.cons | exact LN.nil))) | fail)
      exact ⟨_, _, .tup (.same (.same (.nil (by (repeat (first | exact Subl.nil | refine Subl.cons (by (repeat (first | exact Take.here | apply Take.there))) ?_)))))), rfl, rfl⟩
    · have h4 : 1073741824 ≤ w.time := by omega
      repeat' (first | refine Sp.h ?_ | refine Lk.r rfl ?_ | refine Rf.mk rfl ?_ | (apply Bd.t; (focus (first | assumption | omega | rfl))) | (apply Bd.f; (focus (first | assumption | omega | exact Bool.false_ne_true))) | (refine Im.mk ?_; intro _) | (refine All.mk ?_; intro _) | (apply TkB.r; (focus (repeat (first | exact Take.here | apply Take.there)))) | (apply Ix.r; (focus assumption); (focus omega)) | (apply SetAsk.r; (focus (repeat (first | exact SetAs.z | (apply SetAs.c; (focus (repeat (first | assumption | exact SetA.z | apply SetA.s)))))))) | (apply Fk.r; (focus (repeat (first | exact FillA.nil | (apply FillA.agg; (focus rfl); (focus rfl); (focus (repeat (first | exact SetAs.z | (apply SetAs.c; (focus (repeat (first | assumption | exact SetA.z | apply SetA.s)))))))) | (apply FillA.one; (focus rfl); (focus infer_instance); (focus (repeat (first | assumption | exact SetA.z | apply SetA.s)))))))) | (apply Nm.r; (focus repeat (first | apply LN.cons | exact LN.nil))) | fail)
      exact ⟨_, _, .tup (.same (.same (.nil (by (repeat (first | exact Subl.nil | refine Subl.cons (by (repeat (first | exact Take.here | apply Take.there))) ?_)))))), rfl, rfl⟩
  rw [if_neg h2]
  by_cases h3 : EvV m (w.clock.length : Nat) (mkN w r x)
  · rw [if_neg (fun h => h h3)]
    rw [decide_eq_true h3] at hev
    rw [hmk] at hev ⊢
    refine CallA.of pg ord18 Tryz.func18 rfl Tryz.ntmps18 Tryz.results18 rfl fun h0 G0 O0 => ?_
    repeat' (first | refine Sp.h ?_ | refine Lk.r rfl ?_ | refine Rf.mk rfl ?_ | (apply Bd.t; (focus (first | assumption | omega | rfl))) | (apply Bd.f; (focus (first | assumption | omega | exact Bool.false_ne_true))) | refine OpK.r rfl ?_ | (refine Im.mk ?_; intro _) | (refine All.mk ?_; intro _) | (apply TkB.r; (focus (repeat (first | exact Take.here | apply Take.there)))) | (apply Ix.r; (focus assumption); (focus omega)) | refine Ch.l ⟨rfl, rfl⟩ ?_ | refine Ch.r ?_ | (apply SetAsk.r; (focus (repeat (first | exact SetAs.z | (apply SetAs.c; (focus (repeat (first | assumption | exact SetA.z | apply SetA.s)))))))) | (apply Fk.r; (focus (repeat (first | exact FillA.nil | (apply FillA.agg; (focus rfl); (focus rfl); (focus (repeat (first | exact SetAs.z | (apply SetAs.c; (focus (repeat (first | assumption | exact SetA.z | apply SetA.s)))))))) | (apply FillA.one; (focus rfl); (focus infer_instance); (focus (repeat (first | assumption | exact SetA.z | apply SetA.s)))))))) | (apply Nm.r; (focus repeat (first | apply LN.cons | exact LN.nil))) | (apply CA.draw; (focus rfl); (focus kernel_rfl); (focus kernel_rfl); (focus repeat' (first | apply ON.one | exact ON.done | exact ON.none | apply ON.alt)); (focus rfl)) | exact trivial | apply RA'.both | (apply Ov.n; (focus first | omega | (simp <;> omega))) | fail | (apply Cl.p (hcl); (focus ((repeat' (first | exact Lend.nil | apply Lend.keep | fail)); done))) | (apply Cl.p (hev); (focus ((repeat' (first | exact Lend.nil | apply Lend.keep | fail)); done))))
    all_goals exact ⟨_, _, .tup (.same (.same (.nil (by (repeat (first | exact Subl.nil | refine Subl.cons (by (repeat (first | exact Take.here | apply Take.there))) ?_)))))), rfl, rfl⟩
  · rw [if_pos h3]
    rw [decide_eq_false h3] at hev
    rw [hmk] at hev
    refine hz 1 ?_
    refine CallA.of pg ord18 Tryz.func18 rfl Tryz.ntmps18 Tryz.results18 rfl fun h0 G0 O0 => ?_
    repeat' (first | refine Sp.h ?_ | refine Lk.r rfl ?_ | refine Rf.mk rfl ?_ | (apply Bd.f; (focus (first | assumption | omega | exact Bool.false_ne_true))) | refine OpK.r rfl ?_ | (refine Im.mk ?_; intro _) | (refine All.mk ?_; intro _) | (apply TkB.r; (focus (repeat (first | exact Take.here | apply Take.there)))) | (apply Ix.r; (focus assumption); (focus omega)) | refine Ch.l ⟨rfl, rfl⟩ ?_ | refine Ch.r ?_ | (apply SetAsk.r; (focus (repeat (first | exact SetAs.z | (apply SetAs.c; (focus (repeat (first | assumption | exact SetA.z | apply SetA.s)))))))) | (apply Fk.r; (focus (repeat (first | exact FillA.nil | (apply FillA.agg; (focus rfl); (focus rfl); (focus (repeat (first | exact SetAs.z | (apply SetAs.c; (focus (repeat (first | assumption | exact SetA.z | apply SetA.s)))))))) | (apply FillA.one; (focus rfl); (focus infer_instance); (focus (repeat (first | assumption | exact SetA.z | apply SetA.s)))))))) | (apply Nm.r; (focus repeat (first | apply LN.cons | exact LN.nil))) | (apply CA.draw; (focus rfl); (focus kernel_rfl); (focus kernel_rfl); (focus repeat' (first | apply ON.one | exact ON.done | exact ON.none | apply ON.alt)); (focus rfl)) | exact trivial | apply RA'.both | (apply Ov.n; (focus first | omega | (simp <;> omega))) | fail | (apply Cl.p (hcl); (focus ((repeat' (first | exact Lend.nil | apply Lend.keep | fail)); done))) | (apply Cl.p (hev); (focus ((repeat' (first | exact Lend.nil | apply Lend.keep | fail)); done))))
    all_goals exact ⟨_, _, .tup (.same (.same (.nil (by (repeat (first | exact Subl.nil | refine Subl.cons (by (repeat (first | exact Take.here | apply Take.there))) ?_)))))), rfl, rfl⟩
end Go.Proofs.YtmllihbhphnolaaGreat
namespace Go.Proofs.YtmllihbhphnolaaGreat
open Go Go.CF
set_option maxRecDepth 20000
/-- An event stands ahead of another one in the order. -/
def LtE (a b : EvS) : Prop := a.time < b.time ∨ a.time = b.time ∧ (a.rep < b.rep ∨ a.rep = b.rep ∧ a.num < b.num)
noncomputable instance (a b : EvS) : Decidable (LtE a b) := Classical.propDecidable _
/-- In order. -/
abbrev SrtE (l : List EvS) : Prop := l.Pairwise fun a b => ¬ LtE b a
theorem ne_snoc {α : Type} {l : List α} (h : l ≠ []) : ∃ m y, l = m ++ [y] := ⟨l.dropLast, l.getLast h, (List.dropLast_concat_getLast h).symm⟩
theorem srt_ins {S1 S2 : List EvS} {x : EvS} (h : SrtE (S1 ++ S2)) (h2 : ∀ s ∈ S2, LtE x s) (h1 : ∀ m y, S1 = m ++ [y] → ¬ LtE x y) : SrtE (S1 ++ x :: S2) := by
  obtain ⟨a1, a2, a3⟩ := List.pairwise_append.1 h
  refine List.pairwise_append.2 ⟨a1, List.pairwise_cons.2 ⟨fun s hs h9 => ?_, a2⟩, fun s hs t ht => ?_⟩
  · have := h2 s hs; unfold LtE at *; omega
  · rcases List.mem_cons.1 ht with e | ht
    · subst e
      by_cases hn : S1 = []
      · subst hn; cases hs
      · obtain ⟨m, y, rfl⟩ := ne_snoc hn
        have hy := h1 m y rfl
        rcases List.mem_append.1 hs with hs | hs
        · have := (List.pairwise_append.1 a1).2.2 s hs y (by simp)
          unfold LtE at *; omega
        · rw [List.mem_singleton.1 hs]; exact hy
    · exact a3 s hs t ht
end Go.Proofs.YtmllihbhphnolaaGreat
namespace Go.Proofs.YtmllihbhphnolaaGreat
open Go Go.CF
set_option maxRecDepth 20000
theorem LtE.asymm {a b : EvS} (h : LtE a b) : ¬ LtE b a := by unfold LtE at *; omega
end Go.Proofs.YtmllihbhphnolaaGreat
namespace Go.Proofs.YtmllihbhphnolaaGreat
open Go Go.CF
set_option maxRecDepth 20000
theorem pw_uniq {α : Type} {R : α → α → Prop} (has : ∀ a b, R a b → ¬ R b a) : ∀ s t : List α, s.Pairwise R → t.Pairwise R → (∀ x, x ∈ s ↔ x ∈ t) → s = t := by
  intro s
  induction s with
  | nil =>
    intro t _ _ h
    cases t with
    | nil => rfl
    | cons b t => exact absurd ((h b).2 (by simp)) (by simp)
  | cons a s ih =>
    intro t hs ht h
    cases t with
    | nil => exact absurd ((h a).1 (by simp)) (by simp)
    | cons b t =>
      obtain ⟨h1, h2⟩ := List.pairwise_cons.1 hs
      obtain ⟨h3, h4⟩ := List.pairwise_cons.1 ht
      have hab : a = b := by
        rcases List.mem_cons.1 ((h a).1 (by simp)) with e | e
        · exact e
        · rcases List.mem_cons.1 ((h b).2 (by simp)) with e2 | e2
          · exact e2.symm
          · exact absurd (h3 a e) (has _ _ (h1 b e2))
      subst hab
      rw [ih t h2 h4 fun x => ?_]
      have := h x
      simp only [List.mem_cons] at this
      constructor
      · intro hx
        rcases this.1 (.inr hx) with e | e
        · subst e; exact absurd (h1 _ hx) (fun h9 => has _ _ h9 h9)
        · exact e
      · intro hx
        rcases this.2 (.inr hx) with e | e
        · subst e; exact absurd (h3 _ hx) (fun h9 => has _ _ h9 h9)
        · exact e
theorem LtK_asymm (a b : MkS) : LtK a b → ¬ LtK b a := by unfold LtK; omega
end Go.Proofs.YtmllihbhphnolaaGreat
namespace Go.Proofs.YtmllihbhphnolaaGreat
open Go Go.CF
set_option maxRecDepth 20000
/-- Events in the order. -/
noncomputable def ordE (l : List EvS) : List EvS := l.mergeSort fun a b => decide (¬ LtE b a)
theorem ordE_perm (l : List EvS) : l.Perm (ordE l) := (List.mergeSort_perm _ _).symm
theorem ordE_srt (l : List EvS) : SrtE (ordE l) := by
  have := List.pairwise_mergeSort (le := fun a b : EvS => decide (¬ LtE b a)) (fun a b c h1 h2 => by simp [LtE] at *; omega) (fun a b => by simp [LtE]; omega) l
  exact this.imp fun h => by simpa using h
theorem srt_lt {l : List EvS} (hu : Uniq l) {S : List EvS} (hp : l.Perm S) (hs : SrtE S) : S.Pairwise LtE := by
  have hu1 : l.Pairwise fun a b => nm a ≠ nm b := by
    rw [List.pairwise_iff_getElem]
    intro i j hi hj hij h
    have := hu i j _ _ (List.getElem?_eq_getElem hi) (List.getElem?_eq_getElem hj) h
    omega
  have hu2 : S.Pairwise fun a b => nm a ≠ nm b := hp.pairwise hu1 (fun h => h.symm)
  refine (hs.and hu2).imp fun ⟨h1, h2⟩ => ?_
  simp only [nm, ne_eq, List.cons.injEq, and_true] at h2
  unfold LtE at *
  omega
theorem ordE_uniq {l S : List EvS} (hu : Uniq l) (hp : l.Perm S) (hs : SrtE S) : S = ordE l :=
  pw_uniq (fun _ _ => LtE.asymm) _ _ (srt_lt hu hp hs) (srt_lt hu (ordE_perm l) (ordE_srt l)) fun _ => (hp.mem_iff).symm.trans (ordE_perm l).mem_iff
end Go.Proofs.YtmllihbhphnolaaGreat
namespace Go.Proofs.YtmllihbhphnolaaGreat
open Go Go.CF
set_option maxRecDepth 20000
/-- The update of a cell by an event. -/
def updE (m : ModS) (e : EvS) (i : Nat) : Option UpS := if e.kind = 0 then updF (usF m e) i else none
noncomputable def mkE (t : TblS) (e : EvS) (u : UpS) : MkS := ⟨e.rep, e.num, e.time, if isReg t.kind then u.2.2 else 0⟩
/-- The kind of the updates that make marks, and of those that let them go. -/
def bK (k : Int) : Int := if k = 2 then 0 else if k = 3 then 1 else 2
def kK (k : Int) : Int := if k = 2 then 1 else if k = 3 then 0 else 2
def Asg (m : ModS) (t : TblS) (i : Nat) (P : List EvS) (x : MkS) : Prop := ∃ e ∈ P, ∃ u, updE m e i = some u ∧ u.1 = bK t.kind ∧ x = mkE t e u
def Liv (m : ModS) (t : TblS) (i : Nat) (P : List EvS) (x : MkS) : Prop := ∃ e ∈ P, ∃ u, updE m e i = some u ∧ u.1 = bK t.kind ∧ x = mkE t e u ∧ ∀ d ∈ P, ∀ w, updE m d i = some w → w.1 = kK t.kind → ¬ HasC d.past e.rep e.num
def PutP (m : ModS) (t : TblS) (i : Nat) (P : List EvS) : Prop := t.kind = 3 ∧ ∃ e ∈ P, ∃ u, updE m e i = some u ∧ u.1 = 0
def Kn4 (m : ModS) (t : TblS) (i : Nat) (P : List EvS) (l : List MkS) : Prop := (l = [] ∧ ∀ x, ¬ Asg m t i P x) ∨ ∃ x, l = [x] ∧ Asg m t i P x ∧ ∀ y, Asg m t i P y → ¬ LtK x y
/-- What is known of a cell by events. -/
structure Kn (m : ModS) (t : TblS) (i : Nat) (P : List EvS) (g : MgS) : Prop where
  put : g.put = true ↔ PutP m t i P
  drop : g.drop = false
  srt : g.marks.Pairwise LtK
  four : t.kind = 4 → Kn4 m t i P g.marks
  liv : t.kind ≠ 4 → ∀ x, x ∈ g.marks ↔ Liv m t i P x
def UniqP (P : List EvS) : Prop := ∀ a ∈ P, ∀ b ∈ P, a.rep = b.rep → a.num = b.num → a = b
theorem asg_nm {m : ModS} {t : TblS} {i : Nat} {P : List EvS} (hu : UniqP P) {x y : MkS} (hx : Asg m t i P x) (hy : Asg m t i P y) (hn : Nm x y) : x = y := by
  obtain ⟨e, he, u, h1, _, rfl⟩ := hx
  obtain ⟨d, hd, w, h3, _, rfl⟩ := hy
  have := hu e he d hd hn.1 hn.2
  subst this
  rw [h1] at h3; cases h3; rfl
theorem liv_asg {m : ModS} {t : TblS} {i : Nat} {P : List EvS} {x : MkS} (h : Liv m t i P x) : Asg m t i P x := by
  obtain ⟨e, he, u, h1, h2, h3, _⟩ := h
  exact ⟨e, he, u, h1, h2, h3⟩
theorem Kn.mem {m : ModS} {t : TblS} {i : Nat} {P : List EvS} {g : MgS} (h : Kn m t i P g) {x : MkS} (hx : x ∈ g.marks) : Asg m t i P x := by
  by_cases k4 : t.kind = 4
  · rcases h.four k4 with ⟨h1, _⟩ | ⟨y, h1, h2, _⟩
    · rw [h1] at hx; cases hx
    · rw [h1, List.mem_singleton] at hx; subst hx; exact h2
  · exact liv_asg ((h.liv k4 x).1 hx)
/-- An event that comes next. -/
structure Nxt (P : List EvS) (e : EvS) : Prop where
  nm : ∀ p ∈ P, ¬ (p.rep = e.rep ∧ p.num = e.num)
  past : ∀ p ∈ P, ¬ HasC p.past e.rep e.num
  tm : ∀ p ∈ P, ¬ (p.time = e.time ∧ p.rep = e.rep)
  self : ¬ HasC e.past e.rep e.num
theorem asg_snoc {m : ModS} {t : TblS} {i : Nat} {P : List EvS} {e : EvS} {x : MkS} : Asg m t i (P ++ [e]) x ↔ Asg m t i P x ∨ ∃ u, updE m e i = some u ∧ u.1 = bK t.kind ∧ x = mkE t e u := by
  unfold Asg
  simp only [List.mem_append, List.mem_singleton]
  constructor
  · rintro ⟨d, hd | rfl, h⟩
    · exact .inl ⟨d, hd, h⟩
    · exact .inr h
  · rintro (⟨d, hd, h⟩ | h)
    · exact ⟨d, .inl hd, h⟩
    · exact ⟨e, .inr rfl, h⟩
theorem putP_snoc {m : ModS} {t : TblS} {i : Nat} {P : List EvS} {e : EvS} : PutP m t i (P ++ [e]) ↔ PutP m t i P ∨ t.kind = 3 ∧ ∃ u, updE m e i = some u ∧ u.1 = 0 := by
  unfold PutP
  simp only [List.mem_append, List.mem_singleton]
  constructor
  · rintro ⟨hk, d, hd | rfl, h⟩
    · exact .inl ⟨hk, d, hd, h⟩
    · exact .inr ⟨hk, h⟩
  · rintro (⟨hk, d, hd, h⟩ | ⟨hk, h⟩)
    · exact ⟨hk, d, .inl hd, h⟩
    · exact ⟨hk, e, .inr rfl, h⟩
theorem liv_snoc {m : ModS} {t : TblS} {i : Nat} {P : List EvS} {e : EvS} (hn : Nxt P e) {x : MkS} :
    Liv m t i (P ++ [e]) x ↔ (Liv m t i P x ∧ ∀ u, updE m e i = some u → u.1 = kK t.kind → ¬ HasC e.past x.rep x.num) ∨ ∃ u, updE m e i = some u ∧ u.1 = bK t.kind ∧ x = mkE t e u := by
  constructor
  · rintro ⟨d, hd, u, h1, h2, h3, h4⟩
    rcases List.mem_append.1 hd with hd | hd
    · refine .inl ⟨⟨d, hd, u, h1, h2, h3, fun d' hd' => h4 d' (List.mem_append.2 (.inl hd'))⟩, fun w hw hk => ?_⟩
      rw [h3]; exact h4 e (by simp) w hw hk
    · rw [List.mem_singleton.1 hd] at h1 h3
      exact .inr ⟨u, h1, h2, h3⟩
  · rintro (⟨⟨d, hd, u, h1, h2, h3, h4⟩, h5⟩ | ⟨u, h1, h2, h3⟩)
    · refine ⟨d, List.mem_append.2 (.inl hd), u, h1, h2, h3, fun d' hd' w hw hk => ?_⟩
      rcases List.mem_append.1 hd' with hd' | hd'
      · exact h4 d' hd' w hw hk
      · rw [List.mem_singleton.1 hd'] at hw ⊢
        have := h5 w hw hk
        rw [h3] at this; exact this
    · refine ⟨e, by simp, u, h1, h2, h3, fun d' hd' w hw hk => ?_⟩
      rcases List.mem_append.1 hd' with hd' | hd'
      · exact hn.past d' hd'
      · rw [List.mem_singleton.1 hd']; exact hn.self
theorem ins_lt {l : List MkS} {x : MkS} (hs : l.Pairwise LtK) (hn : ¬ HasNm l x) : (insK l x).Pairwise LtK ∧ ∀ y, y ∈ insK l x ↔ y ∈ l ∨ y = x := by
  have hsK : SrtK l := hs.imp fun h => LtK_asymm _ _ h
  have hm := hsK.mono x
  have hlt : ∀ y ∈ l, LtK x y ∨ LtK y x := fun y hy => by
    have h : ¬ Nm y x := fun h => hn ⟨y, hy, h⟩
    unfold Nm at h; unfold LtK; omega
  have h1 : ∀ y ∈ l.take (posK l x), LtK y x := fun y hy => by
    obtain ⟨j, hj⟩ := List.getElem?_of_mem hy
    have hjl : j < posK l x := by have := (List.getElem?_eq_some_iff.1 hj).1; simp at this; omega
    rw [List.getElem?_take, if_pos hjl] at hj
    by_cases h9 : LtK y x
    · exact h9
    · have : idxN (fun y => decide (¬ LtK y x)) l ≤ j := by
        rcases Nat.lt_or_ge j (idxN (fun y => decide (¬ LtK y x)) l) with hlt9 | h
        · exfalso
          have hle := idxN_le (fun y => decide (¬ LtK y x)) l
          by_cases hlen : idxN (fun y => decide (¬ LtK y x)) l < l.length
          · obtain ⟨z, _, _, hz3⟩ := idxN_at hlen
            have := hz3 j y hlt9 hj
            simp at this; exact h9 this
          · have hnone : ∀ z ∈ l, LtK z x := fun z hz => Classical.byContradiction fun h => hlen (idxN_lt.2 ⟨z, hz, by simpa using h⟩)
            exact h9 (hnone y (List.mem_of_getElem? hj))
        · exact h
      unfold posK at hjl; omega
  have h2 : ∀ y ∈ l.drop (posK l x), LtK x y := fun y hy => by
    obtain ⟨j, hj⟩ := List.getElem?_of_mem hy
    rw [List.getElem?_drop] at hj
    have hym := List.mem_of_getElem? hj
    refine (hlt y hym).resolve_right fun h9 => ?_
    have hp : posK l x < l.length := by have := (List.getElem?_eq_some_iff.1 hj).1; omega
    obtain ⟨z, hz, hz2, _⟩ := idxN_at (p := fun y => decide (¬ LtK y x)) (l := l) hp
    have hz2 : ¬ LtK z x := by simpa using hz2
    exact hz2 (hm _ _ z y (Nat.le_add_right (posK l x) j) hz hj h9)
  have htd := List.take_append_drop (posK l x) l
  have hs' := hs
  rw [← htd] at hs'
  obtain ⟨s1, s2, s3⟩ := List.pairwise_append.1 hs'
  refine ⟨List.pairwise_append.2 ⟨s1, List.pairwise_cons.2 ⟨h2, s2⟩, fun a ha b hb => ?_⟩, fun y => ?_⟩
  · rcases List.mem_cons.1 hb with rfl | hb
    · exact h1 a ha
    · exact s3 a ha b hb
  · rw [insK, List.mem_append, List.mem_cons]
    constructor
    · rintro (h | rfl | h)
      · exact .inl (List.mem_of_mem_take h)
      · exact .inr rfl
      · exact .inl (List.mem_of_mem_drop h)
    · rintro (h | rfl)
      · rw [← htd, List.mem_append] at h
        exact h.elim .inl fun h => .inr (.inr h)
      · exact .inr (.inl rfl)
end Go.Proofs.YtmllihbhphnolaaGreat
namespace Go.Proofs.YtmllihbhphnolaaGreat
open Go Go.CF
set_option maxRecDepth 20000
theorem cmp2_neg {a b : MkS} : cmp2 a b < 0 ↔ a.time < b.time ∨ a.time = b.time ∧ a.rep < b.rep := by
  unfold cmp2 orI cmpI
  by_cases h1 : a.time < b.time
  · simp [h1]
  by_cases h2 : b.time < a.time
  · simp [h1, h2]; omega
  have h3 : a.time = b.time := by omega
  by_cases h4 : a.rep < b.rep
  · simp [h3, h4]
  by_cases h5 : b.rep < a.rep
  · simp [h3, h4, h5]
  have h6 : a.rep = b.rep := by omega
  simp [h3, h6]
def Kd (t : TblS) : Prop := t.kind = 2 ∨ t.kind = 3 ∨ t.kind = 4 ∨ t.kind = 5
theorem cell_step {m : ModS} {t : TblS} {i : Nat} {P : List EvS} {g : MgS} {e : EvS} (hk : Kd t) (h : Kn m t i P g) (hl : g.marks.length < 1024) (hn : Nxt P e) :
    ∃ g', cellF e t (updE m e i) g = (0, g') ∧ Kn m t i (P ++ [e]) g' ∧ g'.marks.length ≤ g.marks.length + 1 := by
  cases hu : updE m e i with
  | none =>
    refine ⟨g, rfl, ⟨?_, h.drop, h.srt, fun k4 => ?_, fun k4 x => ?_⟩, by omega⟩
    · rw [putP_snoc, hu]; simp [h.put]
    · have he : ∀ x, Asg m t i (P ++ [e]) x ↔ Asg m t i P x := fun x => by rw [asg_snoc, hu]; simp
      rcases h.four k4 with ⟨h1, h2⟩ | ⟨x, h1, h2, h3⟩
      · exact .inl ⟨h1, fun x hx => h2 x ((he x).1 hx)⟩
      · exact .inr ⟨x, h1, (he x).2 h2, fun y hy => h3 y ((he y).1 hy)⟩
    · rw [liv_snoc hn, hu]; simp [h.liv k4]
  | some u =>
    have hno : ¬ HasNm g.marks (mkE t e u) := fun ⟨x, hx, hxn⟩ => by
      obtain ⟨p, hp, w, _, _, rfl⟩ := h.mem hx
      exact hn.nm p hp hxn
    have hadd : addF g.marks (mkE t e u) = (0, insK g.marks (mkE t e u)) := by rw [addF, if_neg hno, if_neg (by omega)]
    have hil : ∀ (l : List MkS) x, (insK l x).length = l.length + 1 := fun l x => by
      have := posK_le l x
      simp [insK]; omega
    obtain ⟨i1, i2⟩ := ins_lt h.srt hno
    have hfl : ∀ c, (fgK c g.marks).length ≤ g.marks.length := fun c => List.length_filter_le _ _
    have hfm : ∀ c x, x ∈ fgK c g.marks ↔ x ∈ g.marks ∧ ¬ HasC c x.rep x.num := fun c x => by simp [fgK, List.mem_filter]
    have hput : t.kind ≠ 3 → g.put = false := fun h3 => by
      have := h.put
      cases hp : g.put
      · rfl
      · exact absurd (this.1 hp).1 h3
    have hmk : mkE t e u = ⟨e.rep, e.num, e.time, if isReg t.kind then u.2.2 else 0⟩ := rfl
    have hlv : ∀ x, Liv m t i (P ++ [e]) x ↔ (Liv m t i P x ∧ (u.1 = kK t.kind → ¬ HasC e.past x.rep x.num)) ∨ (u.1 = bK t.kind ∧ x = mkE t e u) := fun x => by
      rw [liv_snoc hn, hu]; simp
    have hpt : PutP m t i (P ++ [e]) ↔ PutP m t i P ∨ t.kind = 3 ∧ u.1 = 0 := by rw [putP_snoc, hu]; simp
    have hsame : cellF e t (some u) g = (0, g) → (t.kind ≠ 4 → u.1 ≠ bK t.kind ∧ u.1 ≠ kK t.kind) → (t.kind = 4 → u.1 ≠ 2) → (t.kind = 3 → u.1 ≠ 0) → ∃ g', cellF e t (some u) g = (0, g') ∧ Kn m t i (P ++ [e]) g' ∧ g'.marks.length ≤ g.marks.length + 1 := fun h1 h2 h3 h4 => by
      refine ⟨g, h1, ⟨?_, h.drop, h.srt, fun k4 => ?_, fun k4 x => ?_⟩, by omega⟩
      · rw [hpt, h.put]; exact ⟨.inl, fun h => h.elim id fun h => absurd h.2 (h4 h.1)⟩
      · have hb : bK t.kind = 2 := by rw [k4]; rfl
        have he : ∀ x, Asg m t i (P ++ [e]) x ↔ Asg m t i P x := fun x => by
          rw [asg_snoc, hu]
          refine ⟨fun h => h.elim id fun ⟨w, hw, hw2, _⟩ => ?_, .inl⟩
          cases hw
          exact absurd (hw2.trans hb) (h3 k4)
        rcases h.four k4 with ⟨h1, h2⟩ | ⟨x, h1, h2, h3⟩
        · exact .inl ⟨h1, fun x hx => h2 x ((he x).1 hx)⟩
        · exact .inr ⟨x, h1, (he x).2 h2, fun y hy => h3 y ((he y).1 hy)⟩
      · rw [hlv, h.liv k4]
        exact ⟨fun h9 => .inl ⟨h9, fun h => absurd h (h2 k4).2⟩, fun h9 => h9.elim (·.1) fun h => absurd h.1 (h2 k4).1⟩
    rcases hk with k | k | k | k
    · have nb : bK t.kind = 0 := by rw [k]; rfl
      have nk : kK t.kind = 1 := by rw [k]; rfl
      by_cases u0 : u.1 = 0
      · refine ⟨⟨g.put, g.drop, insK g.marks (mkE t e u)⟩, ?_, ⟨?_, h.drop, i1, fun k4 => by omega, fun _ x => ?_⟩, by simp [hil]⟩
        · simp only [cellF, k, u0, true_and, true_or, if_true]
          rw [← k, ← hmk, hadd]
        · rw [hpt, h.put]; exact ⟨.inl, fun h => h.elim id fun h => by omega⟩
        · rw [hlv]
          show x ∈ insK g.marks (mkE t e u) ↔ _
          rw [i2, h.liv (by omega)]
          exact ⟨fun h9 => h9.elim (fun h9 => .inl ⟨h9, fun h => by omega⟩) fun h9 => .inr ⟨by omega, h9⟩, fun h9 => h9.elim (fun h9 => .inl h9.1) fun h9 => .inr h9.2⟩
      by_cases u1 : u.1 = 1
      · refine ⟨⟨false, g.drop, fgK e.past g.marks⟩, ?_, ⟨?_, h.drop, h.srt.filter _, fun k4 => by omega, fun _ x => ?_⟩, by simp only; have := hfl e.past; omega⟩
        · simp [cellF, k, u1]
        · rw [hpt, ← h.put, hput (by omega)]
          simp only [Bool.false_eq_true, false_or, false_iff]
          omega
        · rw [hlv]
          show x ∈ fgK e.past g.marks ↔ _
          rw [hfm, h.liv (by omega)]
          exact ⟨fun h9 => .inl ⟨h9.1, fun _ => h9.2⟩, fun h9 => h9.elim (fun h9 => ⟨h9.1, h9.2 (by omega)⟩) fun h9 => by omega⟩
      · exact hsame (by simp [cellF, k, u0, u1]) (fun _ => ⟨by omega, by omega⟩) (fun h => by omega) (fun h => by omega)
    · have nb : bK t.kind = 1 := by rw [k]; rfl
      have nk : kK t.kind = 0 := by rw [k]; rfl
      by_cases u1 : u.1 = 1
      · refine ⟨⟨g.put, g.drop, insK g.marks (mkE t e u)⟩, ?_, ⟨?_, h.drop, i1, fun k4 => by omega, fun _ x => ?_⟩, by simp [hil]⟩
        · simp only [cellF, k, u1, true_and, or_true, if_true]
          rw [← k, ← hmk, hadd]
        · rw [hpt, h.put]; exact ⟨.inl, fun h => h.elim id fun h => by omega⟩
        · rw [hlv]
          show x ∈ insK g.marks (mkE t e u) ↔ _
          rw [i2, h.liv (by omega)]
          exact ⟨fun h9 => h9.elim (fun h9 => .inl ⟨h9, fun h => by omega⟩) fun h9 => .inr ⟨by omega, h9⟩, fun h9 => h9.elim (fun h9 => .inl h9.1) fun h9 => .inr h9.2⟩
      by_cases u0 : u.1 = 0
      · refine ⟨⟨true, false, fgK e.past g.marks⟩, ?_, ⟨?_, rfl, h.srt.filter _, fun k4 => by omega, fun _ x => ?_⟩, by simp only; have := hfl e.past; omega⟩
        · simp [cellF, k, u0]
        · rw [hpt]; simp [k, u0]
        · rw [hlv]
          show x ∈ fgK e.past g.marks ↔ _
          rw [hfm, h.liv (by omega)]
          exact ⟨fun h9 => .inl ⟨h9.1, fun _ => h9.2⟩, fun h9 => h9.elim (fun h9 => ⟨h9.1, h9.2 (by omega)⟩) fun h9 => by omega⟩
      · exact hsame (by simp [cellF, k, u0, u1]) (fun _ => ⟨by omega, by omega⟩) (fun h => by omega) (fun _ => u0)
    · have nb : bK t.kind = 2 := by rw [k]; rfl
      by_cases u2 : u.1 = 2
      · have hc : ∀ q, lastF g.marks (mkE t e u) = (0, q) → cellF e t (some u) g = (0, ⟨g.put, g.drop, q⟩) := fun q hq => by
          simp only [cellF, k, u2]
          rw [← k, ← hmk, hq]; simp [k]
        have hx : ∀ x, Asg m t i (P ++ [e]) x ↔ Asg m t i P x ∨ x = mkE t e u := fun x => by rw [asg_snoc, hu]; simp [nb, u2]
        have hpp : g.put = true ↔ PutP m t i (P ++ [e]) := by rw [hpt, h.put]; exact ⟨.inl, fun h => h.elim id fun h => by omega⟩
        rcases h.four k with ⟨h1, h2⟩ | ⟨x, h1, h2, h3⟩
        · refine ⟨⟨g.put, g.drop, [mkE t e u]⟩, hc _ ?_, ⟨hpp, h.drop, by simp, fun _ => .inr ⟨_, rfl, (hx _).2 (.inr rfl), fun y hy => ?_⟩, fun h => absurd k h⟩, by simp⟩
          · rw [h1] at hadd ⊢
            rw [lastF, hadd]
            simp [insK, posK, idxN]
          · rcases (hx y).1 hy with hy | rfl
            · exact absurd hy (h2 y)
            · exact fun h => LtK_asymm _ _ h h
        · by_cases hc2 : cmp2 x (mkE t e u) < 0
          · have hlt : LtK x (mkE t e u) := by have := cmp2_neg.1 hc2; unfold LtK; omega
            refine ⟨⟨g.put, g.drop, [mkE t e u]⟩, hc _ (by rw [h1, lastF, if_pos hc2]), ⟨hpp, h.drop, by simp, fun _ => .inr ⟨_, rfl, (hx _).2 (.inr rfl), fun y hy h9 => ?_⟩, fun h => absurd k h⟩, by simp⟩
            rcases (hx y).1 hy with hy | rfl
            · exact h3 y hy (hlt.trans h9)
            · exact LtK_asymm _ _ h9 h9
          · refine ⟨⟨g.put, g.drop, [x]⟩, hc _ (by rw [h1, lastF, if_neg hc2]), ⟨hpp, h.drop, by simp, fun _ => .inr ⟨x, rfl, (hx _).2 (.inl h2), fun y hy h9 => ?_⟩, fun h => absurd k h⟩, by simp⟩
            rcases (hx y).1 hy with hy | rfl
            · exact h3 y hy h9
            · obtain ⟨p, hp, w, _, _, rfl⟩ := h2
              have a1 := hn.tm p hp
              rw [cmp2_neg] at hc2
              unfold LtK at h9
              simp only [mkE] at hc2 h9
              omega
      · exact hsame (by simp [cellF, k, u2]) (fun h => absurd k h) (fun _ => u2) (fun h => by omega)
    · have nb : bK t.kind = 2 := by rw [k]; rfl
      have nk : kK t.kind = 2 := by rw [k]; rfl
      by_cases u2 : u.1 = 2
      · have hno2 : ¬ HasNm (fgK e.past g.marks) (mkE t e u) := fun ⟨x, hx, hxn⟩ => hno ⟨x, ((hfm _ _).1 hx).1, hxn⟩
        have hfl2 := hfl e.past
        have hadd2 : addF (fgK e.past g.marks) (mkE t e u) = (0, insK (fgK e.past g.marks) (mkE t e u)) := by rw [addF, if_neg hno2, if_neg (by omega)]
        obtain ⟨j1, j2⟩ := ins_lt (l := fgK e.past g.marks) (h.srt.filter _) hno2
        refine ⟨⟨g.put, g.drop, insK (fgK e.past g.marks) (mkE t e u)⟩, ?_, ⟨?_, h.drop, j1, fun k4 => by omega, fun _ x => ?_⟩, by simp only [hil]; omega⟩
        · simp only [cellF, k, u2]
          rw [← k, ← hmk, hadd2]; simp [k]
        · rw [hpt, h.put]; exact ⟨.inl, fun h => h.elim id fun h => by omega⟩
        · rw [hlv]
          show x ∈ insK (fgK e.past g.marks) (mkE t e u) ↔ _
          rw [show x ∈ insK (fgK e.past g.marks) (mkE t e u) ↔ x ∈ fgK e.past g.marks ∨ x = mkE t e u from j2 x, hfm, h.liv (by omega)]
          exact ⟨fun h9 => h9.elim (fun h9 => .inl ⟨h9.1, fun _ => h9.2⟩) fun h9 => .inr ⟨by omega, h9⟩, fun h9 => h9.elim (fun h9 => .inl ⟨h9.1, h9.2 (by omega)⟩) fun h9 => .inr h9.2⟩
      · exact hsame (by simp [cellF, k, u2]) (fun _ => ⟨by omega, by omega⟩) (fun h => by omega) (fun h => by omega)
end Go.Proofs.YtmllihbhphnolaaGreat
namespace Go.Proofs.YtmllihbhphnolaaGreat
open Go Go.CF
set_option maxRecDepth 20000
def isSt (k : Int) : Prop := k = 2 ∨ k = 3
/-- All updates suit their cells. -/
def FitU (m : ModS) : Prop := ∀ a ∈ m.acts, ∀ u ∈ a.eff.updates, ∀ (i : Nat) t, u.2.1 = i → (mrgF m)[i]? = some t → (isSt t.kind ↔ u.1 = 0 ∨ u.1 = 1) ∧ (¬ isSt t.kind → t.lo ≤ u.2.2 ∧ u.2.2 ≤ t.hi)
structure KnL (m : ModS) (P : List EvS) (l : List MgS) : Prop where
  len : l.length = (mrgF m).length
  kn : ∀ (i : Nat) t g, (mrgF m)[i]? = some t → l[i]? = some g → Kn m t i P g ∧ g.marks.length ≤ P.length
theorem kd_of {m : ModS} (hm : LayOK m.sorts m.tables) {i : Nat} {t : TblS} (ht : (mrgF m)[i]? = some t) : Kd t := by
  have := kindM hm t (List.mem_of_getElem? ht)
  unfold Kd; omega
theorem updE_mem {m : ModS} {e : EvS} {i : Nat} {u : UpS} (h : updE m e i = some u) : ∃ a ∈ m.acts, u ∈ a.eff.updates ∧ u.2.1 = i := by
  unfold updE at h
  split at h
  · have h1 := List.mem_of_find?_eq_some h
    have h2 := List.find?_some h
    have h2 : u.2.1 = (i : Int) := by simpa using h2
    rw [List.mem_reverse] at h1
    unfold usF at h1
    cases ha : m.acts[e.action.toNat]? with
    | none => rw [ha] at h1; cases h1
    | some a => rw [ha] at h1; exact ⟨a, List.mem_of_getElem? ha, h1, h2⟩
  · cases h
theorem Kn.valG {m : ModS} {t : TblS} {i : Nat} {P : List EvS} {g : MgS} (hf : FitU m) (ht : (mrgF m)[i]? = some t) (hk : Kd t) (hu : UniqP P) (hP : ∀ e ∈ P, FormedE e) (h : Kn m t i P g) (hl : g.marks.length ≤ 1024) : ValG t g := by
  refine ⟨⟨fun h9 => ?_, fun h9 => ?_, fun h9 => ?_, hl⟩, fun j x hj hx => ⟨?_, fun q y hq hy hn => ?_, fun y hq hy h9 => ?_⟩⟩
  · rw [h.drop] at h9; cases h9
  · have := (h.put.1 h9.1).1
    have := h9.2
    unfold isReg at this; omega
  · rcases h.four h9.1 with ⟨h1, _⟩ | ⟨x, h1, _⟩
    · rw [h1] at h9; simp at h9
    · rw [h1] at h9; simp at h9
  · obtain ⟨e, he, u, h1, h2, rfl⟩ := h.mem (List.mem_of_getElem? hx)
    obtain ⟨f1, f2, ⟨y, f3, f4⟩, f5, f6, f7⟩ := hP e he
    have hlen := (List.getElem?_eq_some_iff.1 f3).1
    have := f1.1 y (List.mem_of_getElem? f3)
    have := f1.2
    unfold rngK at *
    unfold Btw at f6
    obtain ⟨a, ha, hua, hui⟩ := updE_mem h1
    have hfit := hf a ha u hua i t hui ht
    refine ⟨by simp only [mkE]; omega, by simp only [mkE]; omega, by simp only [mkE]; omega, ?_⟩
    simp only [mkE, lowT, highT]
    by_cases hr : isReg t.kind
    · rw [if_pos hr, if_pos hr, if_pos hr]
      exact hfit.2 (by unfold isReg at hr; unfold isSt; omega)
    · rw [if_neg hr, if_neg hr, if_neg hr]; omega
  · have h1 := h.mem (List.mem_of_getElem? hx)
    have h2 := h.mem (List.mem_of_getElem? hy)
    have := asg_nm hu h2 h1 hn
    subst this
    obtain ⟨j1, rfl⟩ := List.getElem?_eq_some_iff.1 hx
    obtain ⟨q1, hq2⟩ := List.getElem?_eq_some_iff.1 hy
    have := List.pairwise_iff_getElem.1 h.srt q j q1 j1 hq
    rw [hq2] at this
    exact LtK_asymm _ _ this this
  · obtain ⟨j1, rfl⟩ := List.getElem?_eq_some_iff.1 hx
    obtain ⟨q1, rfl⟩ := List.getElem?_eq_some_iff.1 hy
    exact LtK_asymm _ _ h9 (List.pairwise_iff_getElem.1 h.srt (j - 1) j q1 j1 (by omega))
theorem KnL.valL {m : ModS} {P : List EvS} {l : List MgS} (hm : LayOK m.sorts m.tables) (hf : FitU m) (hu : UniqP P) (hP : ∀ e ∈ P, FormedE e) (hl : P.length ≤ 1024) (h : KnL m P l) : ValL (mrgF m) l :=
  ⟨h.len.symm, fun i t g ht hg => (h.kn i t g ht hg).1.valG hf ht (kd_of hm ht) hu hP (by have := (h.kn i t g ht hg).2; omega)⟩
theorem KnL.nil (m : ModS) : KnL m [] (List.replicate (mrgF m).length mg0) := by
  refine ⟨by simp, fun i t g _ hg => ?_⟩
  have : g = mg0 := (List.mem_replicate.1 (List.mem_of_getElem? hg)).2
  subst this
  exact ⟨⟨by simp [mg0, PutP], rfl, .nil, fun _ => .inl ⟨rfl, fun x ⟨e, he, _⟩ => by cases he⟩, fun _ x => by simp [mg0, Liv]⟩, by simp [mg0]⟩
/-- Applying an event that comes next. -/
theorem apply_step {m : ModS} {P : List EvS} {l : List MgS} {e : EvS} (hm : LayOK m.sorts m.tables) (hv : ValL (mrgF m) l) (hl : P.length < 1024) (h : KnL m P l) (he : EvV m (e.past.length : Nat) e) (hn : Nxt P e) :
    ∃ l', applyF m l e = (0, l') ∧ KnL m (P ++ [e]) l' ∧ ∀ (i : Nat) t g, (mrgF m)[i]? = some t → l[i]? = some g → l'[i]? = some (cellF e t (updE m e i) g).2 := by
  have hstep : ∀ (i : Nat) t g, (mrgF m)[i]? = some t → l[i]? = some g → ∃ g', cellF e t (updE m e i) g = (0, g') ∧ Kn m t i (P ++ [e]) g' ∧ g'.marks.length ≤ g.marks.length + 1 := fun i t g ht hg =>
    cell_step (kd_of hm ht) (h.kn i t g ht hg).1 (by have := (h.kn i t g ht hg).2; omega) hn
  by_cases hk : e.kind = 0
  · have hup : ∀ i : Nat, updE m e i = updF (usF m e) i := fun i => if_pos hk
    have hat : ∀ (i : Nat) t g, (mrgF m)[i]? = some t → l[i]? = some g → (cellsF (mrgF m) l (usF m e) e)[i]? = some (cellF e t (updE m e i) g) := fun i t g ht hg => by rw [hup]; exact cellsF_at ht hg
    have hall : ∀ p ∈ cellsF (mrgF m) l (usF m e) e, p.1 = 0 := fun p hp => by
      obtain ⟨i, hi⟩ := List.getElem?_of_mem hp
      have hil := (List.getElem?_eq_some_iff.1 hi).1
      rw [cellsF_len] at hil
      obtain ⟨g, hg⟩ := get_of hil
      obtain ⟨t, ht⟩ := get_of (l := mrgF m) (i := i) (by rw [← h.len]; exact hil)
      obtain ⟨g', h1, _⟩ := hstep i t g ht hg
      rw [hat i t g ht hg, h1] at hi
      cases hi; rfl
    refine ⟨(cellsF (mrgF m) l (usF m e) e).map (·.2), ?_, ⟨by rw [List.length_map, cellsF_len, h.len], fun i t g' ht hg' => ?_⟩, fun i t g ht hg => by rw [List.getElem?_map, hat i t g ht hg]; rfl⟩
    · rw [applyF, if_neg (fun h9 => h9 ⟨hv, he⟩), if_neg (fun h9 => h9 hk), gather_end (fun p hp => .inl (hall p hp)), if_neg]
      rintro ⟨p, hp, h8⟩
      rw [hall p hp] at h8; cases h8
    · obtain ⟨g, hg⟩ := get_of (l := l) (i := i) (by rw [h.len]; exact (List.getElem?_eq_some_iff.1 ht).1)
      obtain ⟨g2, h1, h2, h3⟩ := hstep i t g ht hg
      rw [List.getElem?_map, hat i t g ht hg, h1] at hg'
      cases hg'
      have := (h.kn i t g ht hg).2
      exact ⟨h2, by simp; omega⟩
  · have hup : ∀ i : Nat, updE m e i = none := fun i => if_neg hk
    refine ⟨l, by rw [applyF, if_neg (fun h9 => h9 ⟨hv, he⟩), if_pos hk], ⟨h.len, fun i t g ht hg => ?_⟩, fun i t g ht hg => by rw [hup]; exact hg⟩
    obtain ⟨g2, h1, h2, h3⟩ := hstep i t g ht hg
    rw [hup] at h1
    have e1 : g = g2 := congrArg Prod.snd h1
    subst e1
    have := (h.kn i t g ht hg).2
    exact ⟨h2, by simp; omega⟩
/-! ### Closed lists -/
theorem uniqP_of {l : List EvS} (h : Uniq l) : UniqP l := fun a ha b hb h1 h2 => h.eq ha hb (by rw [nm, nm, h1, h2])
theorem has_self {e : EvS} (h : FormedE e) : ¬ HasC e.past e.rep e.num := by
  obtain ⟨_, _, ⟨x, h1, h2⟩, _⟩ := h
  rintro ⟨_, _, _, y, h3, h4⟩
  rw [h1] at h3; cases h3; omega
theorem closed_past {l : List EvS} (h : ClosedE l) {e d : EvS} (hd : d ∈ l) (he : e ∈ l) (hh : HasC d.past e.rep e.num) : e.time < d.time ∧ Cont e.past d.past := by
  obtain ⟨h1, h2, h3, x, h4, h5⟩ := hh
  obtain ⟨y, hy, g1, g2, g3, g4⟩ := h.2.2.2 d hd e.rep.toNat x h4 e.num h3 h5
  have : y = e := uniqP_of h.2.1 y hy e he (by omega) g2
  subst this
  exact ⟨g4, g3⟩
theorem has_of_lt {l : List EvS} (h : ClosedE l) {e d : EvS} (hd : d ∈ l) (he : e ∈ l) (hr : e.rep = d.rep) (hn : e.num < d.num) : HasC d.past e.rep e.num := by
  obtain ⟨f1, f2, ⟨x, f3, f4⟩, _⟩ := (h.2.2.1 d hd).1
  obtain ⟨g1, g2, ⟨y, g3, g4⟩, _⟩ := (h.2.2.1 e he).1
  have := g1.1 y (List.mem_of_getElem? g3)
  unfold rngK at this
  exact ⟨f1, by omega, by omega, x, by rw [hr]; exact f3, by omega⟩
end Go.Proofs.YtmllihbhphnolaaGreat
namespace Go.Proofs.YtmllihbhphnolaaGreat
open Go Go.CF
set_option maxRecDepth 20000
theorem rng_max (x y : Int) (hx : rngK x) (hy : rngK y) : rngK (max x y) := by unfold rngK at *; omega
theorem clkE_val {n : Nat} (hn : 1 ≤ n ∧ n ≤ 5) {l : List EvS} (hl : ∀ e ∈ l, rngK e.num) : ValC (clkE n l) := by
  have key : ∀ (l : List EvS) (c : List Int), (∀ e ∈ l, rngK e.num) → (∀ x ∈ c, rngK x) → ∀ x ∈ l.foldl (fun c e => c.set e.rep.toNat (max (c[e.rep.toNat]?.getD 0) e.num)) c, rngK x := by
    intro l
    induction l with
    | nil => exact fun c _ h => h
    | cons e l ih =>
      intro c h1 h2
      rw [List.foldl_cons]
      refine ih _ (fun d hd => h1 d (List.mem_cons_of_mem _ hd)) fun x hx => ?_
      rcases List.mem_or_eq_of_mem_set hx with h | rfl
      · exact h2 x h
      · have h3 := h1 e (by simp)
        have h4 : rngK (c[e.rep.toNat]?.getD 0) := by
          cases hc : c[e.rep.toNat]? with
          | none => simp [rngK]
          | some y => exact h2 y (List.mem_of_getElem? hc)
        exact rng_max _ _ h4 h3
  refine ⟨key l _ hl fun x hx => ?_, by rw [clkE_len]; omega⟩
  rw [(List.mem_replicate.1 hx).2]; simp [rngK]
theorem formed_num {e : EvS} (h : FormedE e) : rngK e.num := by
  obtain ⟨f1, _, ⟨x, f3, f4⟩, f5, _⟩ := h
  have := f1.1 x (List.mem_of_getElem? f3)
  unfold rngK at *; omega
theorem has_ins {a b : List Int} (hb : ValC b) (h : Ins a b) (hl : a.length ≤ b.length) {r n : Int} (hh : HasC a r n) : HasC b r n := by
  obtain ⟨_, h2, h3, x, hx, h5⟩ := hh
  obtain ⟨y, hy⟩ := get_of (l := b) (i := r.toNat) (by have := (List.getElem?_eq_some_iff.1 hx).1; omega)
  exact ⟨hb, h2, h3, y, hy, by have := h _ x y hx hy; omega⟩
end Go.Proofs.YtmllihbhphnolaaGreat
namespace Go.Proofs.YtmllihbhphnolaaGreat
open Go Go.CF
set_option maxRecDepth 20000
def FitO (t : TblS) (u : UpS) : Prop := (isSt t.kind ↔ u.1 = 0 ∨ u.1 = 1) ∧ (¬ isSt t.kind → t.lo ≤ u.2.2 ∧ u.2.2 ≤ t.hi)
def SuitE (m : ModS) (l : List EvS) : Prop := MOK m ∧ FewV l ∧ ClosedE l ∧ FitU m ∧ ∀ e ∈ l, EvV m (n0 l : Nat) e
end Go.Proofs.YtmllihbhphnolaaGreat
namespace Go.Proofs.YtmllihbhphnolaaGreat
open Go Go.CF
set_option maxRecDepth 20000
theorem ordE_len (l : List EvS) : (ordE l).length = l.length := (ordE_perm l).length_eq.symm
theorem uniqP_sub {l X : List EvS} (h : UniqP l) (hX : ∀ e ∈ X, e ∈ l) : UniqP X := fun a ha b hb => h a (hX a ha) b (hX b hb)
end Go.Proofs.YtmllihbhphnolaaGreat
namespace Go.Proofs.YtmllihbhphnolaaGreat
open Go Go.CF
set_option maxRecDepth 20000
/-! ### The clock of events -/
theorem clk_key {n : Nat} : ∀ (A : List EvS) (c : List Int), c.length = n → (∀ x ∈ c, 0 ≤ x) → (∀ a ∈ A, a.rep.toNat < n ∧ 0 ≤ a.num) → ∀ q, q < n →
    ∃ y, (A.foldl (fun c e => c.set e.rep.toNat (max (c[e.rep.toNat]?.getD 0) e.num)) c)[q]? = some y ∧ 0 ≤ y ∧ ∀ k, 1 ≤ k → (k ≤ y ↔ (∃ z, c[q]? = some z ∧ k ≤ z) ∨ ∃ a ∈ A, a.rep.toNat = q ∧ k ≤ a.num) := by
  intro A
  induction A with
  | nil =>
    intro c hc h0 _ q hq
    obtain ⟨z, hz⟩ := get_of (l := c) (i := q) (by omega)
    exact ⟨z, hz, h0 z (List.mem_of_getElem? hz), fun k _ => by simp [hz]⟩
  | cons a A ih =>
    intro c hc h0 hA q hq
    obtain ⟨h1, h2⟩ := hA a (by simp)
    obtain ⟨u, hu⟩ := get_of (l := c) (i := a.rep.toNat) (by omega)
    have hu0 := h0 u (List.mem_of_getElem? hu)
    rw [List.foldl_cons]
    obtain ⟨y, e1, e2, e3⟩ := ih (c.set a.rep.toNat (max (c[a.rep.toNat]?.getD 0) a.num)) (by rw [List.length_set]; exact hc) (fun x hx => by
      rcases List.mem_or_eq_of_mem_set hx with h | h
      · exact h0 x h
      · rw [h, hu, Option.getD_some]; omega) (fun b hb => hA b (List.mem_cons_of_mem _ hb)) q hq
    refine ⟨y, e1, e2, fun k hk => (e3 k hk).trans ?_⟩
    rw [List.getElem?_set]
    by_cases hqa : a.rep.toNat = q
    · subst hqa
      rw [if_pos rfl, if_pos (by omega), hu, Option.getD_some]
      constructor
      · rintro (⟨z, hz, hkz⟩ | ⟨b, hb, hb1, hb2⟩)
        · cases hz
          by_cases hku : k ≤ u
          · exact .inl ⟨u, rfl, hku⟩
          · exact .inr ⟨a, by simp, rfl, by omega⟩
        · exact .inr ⟨b, List.mem_cons_of_mem _ hb, hb1, hb2⟩
      · rintro (⟨z, hz, hkz⟩ | ⟨b, hb, hb1, hb2⟩)
        · cases hz; exact .inl ⟨_, rfl, by omega⟩
        · rcases List.mem_cons.1 hb with rfl | hb
          · exact .inl ⟨_, rfl, by omega⟩
          · exact .inr ⟨b, hb, hb1, hb2⟩
    · rw [if_neg hqa]
      constructor
      · rintro (h | ⟨b, hb, hb1, hb2⟩)
        · exact .inl h
        · exact .inr ⟨b, List.mem_cons_of_mem _ hb, hb1, hb2⟩
      · rintro (h | ⟨b, hb, hb1, hb2⟩)
        · exact .inl h
        · rcases List.mem_cons.1 hb with rfl | hb
          · exact absurd hb1 hqa
          · exact .inr ⟨b, hb, hb1, hb2⟩
/-- A part of a closed list that has the past of each of its events. -/
structure Cau (l A : List EvS) : Prop where
  sub : ∀ a ∈ A, a ∈ l
  cls : ∀ a ∈ A, ∀ d ∈ l, HasC a.past d.rep d.num → d ∈ A
theorem formed_rep {e : EvS} (h : FormedE e) : 0 ≤ e.rep ∧ e.rep.toNat < e.past.length ∧ 1 ≤ e.num := by
  obtain ⟨f1, f2, ⟨x, f3, f4⟩, _⟩ := h
  have := f1.1 x (List.mem_of_getElem? f3)
  unfold rngK at this
  exact ⟨f2, (List.getElem?_eq_some_iff.1 f3).1, by omega⟩
theorem n0_rng {l : List EvS} (hc : ClosedE l) {e : EvS} (he : e ∈ l) : 1 ≤ n0 l ∧ n0 l ≤ 5 := by
  have h := hc.2.2.1 e he
  rw [← h.2]; exact h.1.1.2
theorem clkE_at {l A : List EvS} (hc : ClosedE l) (hA : ∀ a ∈ A, a ∈ l) {q : Nat} (hq : q < n0 l) : ∃ y, (clkE (n0 l) A)[q]? = some y ∧ 0 ≤ y ∧ ∀ k, 1 ≤ k → (k ≤ y ↔ ∃ a ∈ A, a.rep.toNat = q ∧ k ≤ a.num) := by
  obtain ⟨y, h1, h2, h3⟩ := clk_key (n := n0 l) A (List.replicate (n0 l) 0) (by simp) (fun x hx => by rw [(List.mem_replicate.1 hx).2]; exact Int.le_refl 0) (fun a ha => by
    have hf := hc.2.2.1 a (hA a ha)
    have := formed_rep hf.1
    rw [hf.2] at this
    exact ⟨this.2.1, by omega⟩) q hq
  refine ⟨y, h1, h2, fun k hk => (h3 k hk).trans ⟨fun h => h.elim (fun ⟨z, hz, hkz⟩ => ?_) id, .inr⟩⟩
  rw [List.getElem?_replicate, if_pos hq] at hz
  cases hz; omega
theorem clk_valC {l A : List EvS} (hc : ClosedE l) (hA : ∀ a ∈ A, a ∈ l) (hn : 1 ≤ n0 l ∧ n0 l ≤ 5) : ValC (clkE (n0 l) A) := clkE_val hn fun e he => formed_num (hc.2.2.1 e (hA e he)).1
theorem clk_has {l A : List EvS} (hc : ClosedE l) (hA : Cau l A) {e : EvS} (he : e ∈ l) : HasC (clkE (n0 l) A) e.rep e.num ↔ e ∈ A := by
  have hf := hc.2.2.1 e he
  have hr := formed_rep hf.1
  rw [hf.2] at hr
  obtain ⟨y, h1, h2, h3⟩ := clkE_at hc hA.sub hr.2.1
  constructor
  · rintro ⟨_, _, _, x, hx, hnx⟩
    rw [h1] at hx; cases hx
    obtain ⟨a, ha, ha1, ha2⟩ := (h3 e.num hr.2.2).1 hnx
    have hfa := formed_rep (hc.2.2.1 a (hA.sub a ha)).1
    have har : e.rep = a.rep := by omega
    by_cases hlt : e.num < a.num
    · exact hA.cls a ha e he (has_of_lt hc (hA.sub a ha) he har hlt)
    · have := uniqP_of hc.2.1 e he a (hA.sub a ha) har (by omega)
      rw [this]; exact ha
  · intro h
    exact ⟨clk_valC hc hA.sub (n0_rng hc he), hr.1, hr.2.2, y, h1, (h3 e.num hr.2.2).2 ⟨e, h, rfl, Int.le_refl _⟩⟩
theorem clk_ins {l A : List EvS} (hc : ClosedE l) (hA : Cau l A) {e : EvS} (he : e ∈ l) (hp : ∀ d ∈ l, HasC e.past d.rep d.num → d ∈ A) : Ins e.past (clkE (n0 l) A) := fun i x y hx hy => by
  have hf := hc.2.2.1 e he
  have hil := (List.getElem?_eq_some_iff.1 hx).1
  obtain ⟨z, h1, h2, h3⟩ := clkE_at hc hA.sub (q := i) (by rw [← hf.2]; exact hil)
  rw [hy] at h1; cases h1
  by_cases hx1 : 1 ≤ x
  · obtain ⟨d, hd, g1, g2, _, _⟩ := hc.2.2.2 e he i x hx x hx1 (Int.le_refl _)
    have hdA := hp d hd ⟨hf.1.1, by omega, by omega, x, by rw [g1]; simpa using hx, by omega⟩
    exact (h3 x hx1).2 ⟨d, hdA, by omega, by omega⟩
  · omega
/-! ### States -/
theorem add1_len (s : List Int) (p : Int × Int) : (add1 s p).length = s.length := by simp [add1]
theorem addD_len (d : List (Int × Int)) : ∀ s : List Int, (addD s d).length = s.length := by
  induction d with
  | nil => intro s; rfl
  | cons p d ih => intro s; rw [addD, List.foldl_cons]; exact (ih _).trans (add1_len s p)
theorem addE_len (m : ModS) (s : List Int) (e : EvS) : (addE m s e).length = s.length := by
  unfold addE; split
  · exact addD_len _ s
  · rfl
theorem wrap_id {x : Int} (h : -9223372036854775808 ≤ x ∧ x ≤ 9223372036854775807) : IntKind.i64.wrap x = x := by rw [IntKind.wrap_i64]; omega
theorem addD_bnd (d : List (Int × Int)) : ∀ (s : List Int) (B : Int), 0 ≤ B → B + 1000 * d.length ≤ 1000000000 → (∀ x ∈ s, -B ≤ x ∧ x ≤ B) → (∀ p ∈ d, -1000 ≤ p.2 ∧ p.2 ≤ 1000) → ∀ x ∈ addD s d, -(B + 1000 * d.length) ≤ x ∧ x ≤ B + 1000 * d.length := by
  induction d with
  | nil => intro s B _ _ h _ x hx; have := h x hx; simp only [List.length_nil]; omega
  | cons p d ih =>
    intro s B hB hb h hd x hx
    simp only [List.length_cons] at hb ⊢
    have hp := hd p (by simp)
    have h1 : ∀ x ∈ add1 s p, -(B + 1000) ≤ x ∧ x ≤ B + 1000 := fun x hx => by
      rcases List.mem_or_eq_of_mem_set hx with h9 | h9
      · have := h x h9; omega
      · have h0 : -B ≤ s[p.1.toNat]?.getD 0 ∧ s[p.1.toNat]?.getD 0 ≤ B := by
          cases hs : s[p.1.toNat]? with
          | none => simp only [Option.getD_none]; omega
          | some z => exact h z (List.mem_of_getElem? hs)
        rw [h9, wrap_id (by omega)]
        omega
    have := ih (add1 s p) (B + 1000) (by omega) (by omega) h1 (fun q hq => hd q (List.mem_cons_of_mem _ hq)) x hx
    omega
/-- No event changes a cell by much. -/
def SmD (m : ModS) : Prop := ∀ a ∈ m.acts, a.eff.delta.length ≤ 20 ∧ ∀ p ∈ a.eff.delta, -1000 ≤ p.2 ∧ p.2 ≤ 1000
theorem dlt_sm {m : ModS} (h : SmD m) (e : EvS) : (dltF m e).length ≤ 20 ∧ ∀ p ∈ dltF m e, -1000 ≤ p.2 ∧ p.2 ≤ 1000 := by
  unfold dltF
  cases ha : m.acts[e.action.toNat]? with
  | none => simp
  | some a => exact h a (List.mem_of_getElem? ha)
theorem addE_bnd {m : ModS} (h : SmD m) (e : EvS) {s : List Int} {k : Nat} (hk : k ≤ 1000) (hs : ∀ x ∈ s, -(1000 + 20000 * (k : Int)) ≤ x ∧ x ≤ 1000 + 20000 * (k : Int)) : ∀ x ∈ addE m s e, -(1000 + 20000 * ((k + 1 : Nat) : Int)) ≤ x ∧ x ≤ 1000 + 20000 * ((k + 1 : Nat) : Int) := by
  intro x hx
  unfold addE at hx
  split at hx
  · obtain ⟨d1, d2⟩ := dlt_sm h e
    have := addD_bnd (dltF m e) s (1000 + 20000 * (k : Int)) (by omega) (by omega) hs d2 x hx
    omega
  · have := hs x hx; omega
/-- What a store has behind events of a closed list, delivered in a causal order. -/
structure StoA (m : ModS) (l : List EvS) (ld : List Int) (A : List EvS) (w : NowS) : Prop where
  clock : w.clock = clkE (n0 l) A
  time : w.time = A.foldl (fun t e => max t e.time) 0
  state : w.state = A.foldl (addE m) ld
  merged : KnL m A w.merged
  places : w.places = A.foldl plE []
theorem sto_bnd {m : ModS} (h : SmD m) {ld : List Int} (hl : ∀ x ∈ ld, -1000 ≤ x ∧ x ≤ 1000) : ∀ (A : List EvS), A.length ≤ 1000 → ∀ x ∈ A.foldl (addE m) ld, -(1000 + 20000 * (A.length : Int)) ≤ x ∧ x ≤ 1000 + 20000 * (A.length : Int) := by
  have key : ∀ (A : List EvS), A.reverse.length ≤ 1000 → ∀ x ∈ A.reverse.foldl (addE m) ld, -(1000 + 20000 * (A.reverse.length : Int)) ≤ x ∧ x ≤ 1000 + 20000 * (A.reverse.length : Int) := by
    intro A
    induction A with
    | nil => intro _ x hx; have := hl x hx; simp; omega
    | cons e A ih =>
      intro hA x hx
      rw [List.reverse_cons, List.foldl_append] at hx
      rw [List.length_reverse, List.length_cons] at hA
      have h2 := addE_bnd h e (k := A.reverse.length) (by simp; omega) (ih (by simp; omega)) x hx
      simpa using h2
  intro A hA
  have := key A.reverse (by simpa using hA)
  simpa using this
theorem nxt_cau {l A : List EvS} (hc : ClosedE l) (hA : Cau l A) {e : EvS} (he : e ∈ l) (hn : e ∉ A) : Nxt A e := by
  have hu := uniqP_of hc.2.1
  refine ⟨fun p hp ⟨h1, h2⟩ => hn ?_, fun p hp hh => hn (hA.cls p hp e he hh), fun p hp ⟨h1, h2⟩ => ?_, has_self (hc.2.2.1 e he).1⟩
  · rw [← hu p (hA.sub p hp) e he h1 h2]; exact hp
  · rcases Int.lt_trichotomy p.num e.num with h | h | h
    · have := (closed_past hc he (hA.sub p hp) (has_of_lt hc he (hA.sub p hp) h2 h)).1
      omega
    · exact hn (by rw [← hu p (hA.sub p hp) e he h2 h]; exact hp)
    · exact hn (hA.cls p hp e he (has_of_lt hc (hA.sub p hp) he h2.symm h))
/-- The next event in a causal order is delivered. -/
theorem deliver_ok {m : ModS} {l A : List EvS} {ld : List Int} {w : NowS} {e : EvS} (hs : SuitE m l) (hl : l.length ≤ 100) (hd : SmD m) (hld : ∀ x ∈ ld, -1000 ≤ x ∧ x ≤ 1000) (hw : StoA m l ld A w) (hAl : A.length ≤ 100) (hA : Cau l A) (he : e ∈ l) (hn : e ∉ A) (hp : ∀ d ∈ l, HasC e.past d.rep d.num → d ∈ A) :
    ∃ w', deliverF m A w e = (0, w') ∧ StoA m l ld (A ++ [e]) w' := by
  obtain ⟨hm, hfw, hc, hf, hv⟩ := hs
  have hnx := nxt_cau hc hA he hn
  have hu : UniqP A := uniqP_sub (uniqP_of hc.2.1) hA.sub
  have hval := hw.merged.valL hm.lay hf hu (fun x hx => (hc.2.2.1 x (hA.sub x hx)).1) (by omega)
  have hpl : e.past.length = n0 l := (hc.2.2.1 e he).2
  have hev : EvV m (e.past.length : Nat) e := by rw [hpl]; exact hv e he
  obtain ⟨k', a1, a2, -⟩ := apply_step hm.lay hval (by omega) hw.merged hev hnx
  have hclen : w.clock.length = n0 l := by rw [hw.clock, clkE_len]
  have hb := addE_bnd hd e (k := A.length) (by omega) (sto_bnd hd hld A (by omega))
  have h1 : EvV m (w.clock.length : Nat) e := by rw [hclen]; exact hv e he
  have h2 : ¬ HasC w.clock e.rep e.num := by rw [hw.clock]; exact fun h => hn ((clk_has hc hA he).1 h)
  have h3 : Ins e.past w.clock := by rw [hw.clock]; exact clk_ins hc hA he hp
  have h4 : ¬ LateE A e := fun ⟨x, hx, hh, ht⟩ => by
    have := (closed_past hc he (hA.sub x hx) hh).1
    omega
  have h5 : ¬ (e.kind = 0 ∧ ¬ insS (addE m w.state e)) := fun ⟨_, h⟩ => h fun x hx => by
    rw [hw.state] at hx
    have := hb x hx
    omega
  have h6 : ¬ (applyF m w.merged e).1 ≠ 0 := by rw [a1]; exact fun h => h rfl
  refine ⟨⟨cntF w.clock e, max w.time e.time, addE m w.state e, k', plE w.places e⟩, ?_, ⟨?_, ?_, ?_, a2, ?_⟩⟩
  · rw [deliverF, if_neg (fun h => h h1), if_neg h2, if_neg (fun h => h h3), if_neg h4, if_neg h5, if_neg h6, a1]
  · simp only [hw.clock, clkE, List.foldl_append, cntF]; rfl
  · simp only [hw.time, List.foldl_append]; rfl
  · simp only [hw.state, List.foldl_append]; rfl
  · simp only [hw.places, List.foldl_append]; rfl
end Go.Proofs.YtmllihbhphnolaaGreat
