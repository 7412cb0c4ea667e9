/- Part 10 of the ground of this proof: what its texts say of the model, the program and the plain data; conditions: those that are named. -/
import Derived.Shelf.Slices.In.SortNone
import Derived.Test.YtmjllbjfkafhdaaGreatDoorP09
namespace Go.Proofs.YtmjllbjfkafhdaaGreatDoor
open Go Go.CF
set_option maxRecDepth 20000
abbrev basC (b : NowS) : List AV := [ints b.clock, it b.time, ints b.state, mgs b.merged, nl0, nl0, ints b.places]
abbrev basA (b : NowS) : AV := .agg (basC b)
abbrev stoC (m : ModS) (b : NowS) (v : Value) (w : NowS) : List AV := [ints m.sorts, tbls m.tables, .sl 1 m.families strC, .sl 6 m.cons cnsC, .sl 3 m.ops opC, .sl 5 m.acts actC, .sl 3 m.hides updC, ints b.clock, it b.time, ints b.state, mgs b.merged, nl0, nl0, ints b.places, .ow v, ints w.clock, it w.time, ints w.state, mgs w.merged, ints w.places]
abbrev stoR (p : Nat) (m : ModS) (b : NowS) (v : Value) (w : NowS) : Res := blkR p 133 (stoC m b v w)
abbrev stpC (s : Nat) (e : EvS) (w : NowS) : List AV := [pm s, iv e.rep, iv e.num, iv e.time, ints e.past, iv e.kind, iv e.action, iv e.gk, iv e.gi, iv e.ge, iv e.ga, iv e.to, iv e.place, iv e.serial, ints w.clock, it w.time, ints w.state, mgs w.merged, ints w.places]
abbrev stpR (p s : Nat) (e : EvS) (w : NowS) : Res := blkR p 161 (stpC s e w)
theorem name35_p (e : EvS) : CallP Tryz.prog 92 [evA' e] (dotC e.rep e.num) := by
 refine CallA.of pg ord92 Tryz.func92 rfl Tryz.ntmps92 Tryz.results92 rfl fun h0 G0 O0 => ?_
 repeat' (first|refine Sp.h ?_|refine Lk.r rfl ?_|refine Rf.mk rfl ?_|refine All.mk fun _=>?_|refine xT ?_|(apply SetAsk.r;focus repeat' constructor)|(apply Fk.r;focus repeat' first|infer_instance|constructor)|refine xN ?_|fail)
 exact Fin.p rfl rfl
theorem count_a (x s : Nat) (e : EvS) (w : NowS) (h0 : 0 ≤ e.rep) (h1 : e.rep.toNat < w.clock.length) (hl : w.clock.length ≤ 5) :
  CallA Tryz.prog 94 [pm x] [stpR x s e w] fun r own => r = it 0 ∧ own = [stpR x s e { w with clock := cntF w.clock e }] := by
 obtain ⟨y, hy⟩ := get_of h1
 have hc := clone_o w.clock (by omega)
 have hcnt : cntF w.clock e = w.clock.set e.rep.toNat (max y e.num) := by rw [cntF, hy];rfl
 rw [hcnt]
 refine CallA.of pg ord94 Tryz.func94 rfl Tryz.ntmps94 Tryz.results94 rfl fun h0 G0 O0 => ?_
 repeat' (first|refine Sp.h ?_|refine Lk.r rfl ?_|refine Rf.mk rfl ?_|refine xT ?_|fail)
 (refine Cl.use (hc) (by repeat' (first|exact Lend.nil|apply Lend.keep|fail)) .nil rfl ?_;rintro _ _ ⟨_, rfl, rfl⟩)
 (repeat' (first|(show CA _ _ (Code.region 3 _ _) _ _;apply Stopped.out)|refine Sp.h ?_|refine Lk.r rfl ?_|refine Rf.mk rfl ?_|refine OpK.r rfl ?_|refine xU ?_|refine xT ?_|(apply Ix.r;(focus assumption);(focus omega))|refine xJ ?_|refine xV ?_|refine Up.r rfl ?_|refine xD ?_|fail));any_goals apply Stopped.mk
 (apply CA.own;(focus (apply OX.blk (b := x);(focus repeat constructor);(focus (repeat' (first|exact FX.nil|(apply FX.s1;(focus repeat constructor);(focus first|omega|(simp;done)|(simp;omega)))|apply FX.k)));(focus repeat constructor))))
 repeat' (first|refine Sp.h ?_|refine Lk.r rfl ?_|refine Rf.mk rfl ?_|refine xN ?_|fail)
 exact ⟨_, _, .one (.same (.z)), rfl, rfl⟩
set_option maxHeartbeats 4000000 in
theorem order_a (x s : Nat) (m : ModS) (b : NowS) (v : Value) (evs' : List EvS) (wn : NowS) (e : EvS) (w : NowS) (hl : evs'.length ≤ 1000000) :
  CallA Tryz.prog 95 [pm x] [stpR x s e w, stoR s m b v wn, arrR v 66 13 evs' evC] fun r own => (LateE evs' e ∧ r = it 2 ∧ own = [stoR s m b v wn, arrR v 66 13 evs' evC]) ∨ (¬ LateE evs' e ∧ r = it 0 ∧ own = [stpR x s e { w with time := max w.time e.time }, stoR s m b v wn, arrR v 66 13 evs' evC]) := by
 refine CallA.of pg ord95 Tryz.func95 rfl Tryz.ntmps95 Tryz.results95 rfl fun h0 G0 O0 => ?_
 repeat' (first|refine Sp.h ?_|refine Lk.r rfl ?_|refine Rf.mk rfl ?_|refine xU ?_|refine xT ?_|fail)
 refine CA.loop (fun i : Nat => ⟨[(0, pm x), (11, .ow v), (12, it (evs'.length : Nat)), (13, it i)], [stpR x s e w, stoR s m b v wn, arrR v 66 13 evs' evC]⟩) (fun i => i ≤ evs'.length ∧ ∀ y ∈ evs'.take i, ¬ (HasC e.past y.rep y.num ∧ e.time ≤ y.time)) (fun i => evs'.length - i) 0 xE ⟨Nat.zero_le _, by simp⟩ ?_
 rintro i ⟨hi, ha⟩
 by_cases hin : i < evs'.length
 ·obtain ⟨y, hy⟩ := get_of hin
  have h1 := name35_p y
  have h2 := hasC_p e.past y.rep y.num
  by_cases hh : HasC e.past y.rep y.num
  ·by_cases ht : e.time ≤ y.time
   ·repeat' (first|refine Sp.h ?_|refine Lk.r rfl ?_|refine Rf.mk rfl ?_|refine xA ?_|refine OpK.r rfl ?_|refine All.mk fun _=>?_|refine xU ?_|refine xT ?_|refine xI ?_|refine xJ ?_|refine Ch.l ⟨rfl, rfl⟩ ?_|(apply SetAsk.r;focus repeat' constructor)|refine xN ?_|refine xD ?_|(apply Cl.p (h1);focus (repeat' constructor);done)|(apply Cl.p (h2);focus (repeat' constructor);done))
    all_goals exact ⟨_, _, .one (.same (.z)), .inl ⟨⟨y, List.mem_of_getElem? hy, hh, ht⟩, rfl, rfl⟩⟩
   ·repeat' (first|refine Sp.h ?_|refine Lk.r rfl ?_|refine Rf.mk rfl ?_|refine xA ?_|refine xB ?_|refine OpK.r rfl ?_|refine All.mk fun _=>?_|refine xU ?_|refine xT ?_|refine xI ?_|refine xJ ?_|refine Ch.l ⟨rfl, rfl⟩ ?_|(apply SetAsk.r;focus repeat' constructor)|refine xN ?_|refine xD ?_|refine xO ?_|(apply Cl.p (h1);focus (repeat' constructor);done)|(apply Cl.p (h2);focus (repeat' constructor);done))
    all_goals exact PA.lp (i + 1) xE ⟨⟨hin, all_succ hy ha (fun h => ht h.2)⟩, by omega⟩
  ·repeat' (first|refine Sp.h ?_|refine Lk.r rfl ?_|refine Rf.mk rfl ?_|refine xA ?_|refine xB ?_|refine OpK.r rfl ?_|refine All.mk fun _=>?_|refine xU ?_|refine xT ?_|refine xI ?_|refine xJ ?_|refine Ch.l ⟨rfl, rfl⟩ ?_|(apply SetAsk.r;focus repeat' constructor)|refine xN ?_|refine xD ?_|refine xO ?_|(apply Cl.p (h1);focus (repeat' constructor);done)|(apply Cl.p (h2);focus (repeat' constructor);done))
   all_goals exact PA.lp (i + 1) xE ⟨⟨hin, all_succ hy ha (fun h => hh h.1)⟩, by omega⟩
 ·have hie : i = evs'.length := by omega
  subst hie
  rw [List.take_length] at ha
  repeat' (first|refine Sp.h ?_|refine Lk.r rfl ?_|refine Rf.mk rfl ?_|refine xB ?_|refine OpK.r rfl ?_|refine xT ?_|refine xV ?_|refine xN ?_|refine xD ?_|fail)
  exact ⟨_, _, .one (.same (.z)), .inr ⟨fun ⟨y, hy, h⟩ => ha y hy h, rfl, rfl⟩⟩
theorem dltF_at {m : ModS} {e : EvS} {a : ActS} (h : m.acts[e.action.toNat]? = some a) : dltF m e = a.eff.delta := by rw [dltF, h]
theorem addD_succ {s : List Int} {d : List (Int × Int)} {i : Nat} {p : Int × Int} (h : d[i]? = some p) : addD s (d.take (i + 1)) = add1 (addD s (d.take i)) p := by
 rw [List.take_add_one, h, addD, List.foldl_append];rfl
theorem addD_length (d : List (Int × Int)) : ∀ s : List Int, (addD s d).length = s.length := by
 induction d with
 | nil => intro s;rfl
 | cons p d ih => intro s;rw [addD, List.foldl_cons];exact (ih _).trans (by simp [add1])
set_option maxHeartbeats 4000000 in
theorem sadd_a (x s : Nat) (m : ModS) (b : NowS) (v : Value) (wn : NowS) (e : EvS) (w : NowS) (hm : MOK m) (hst : w.state.length = strF m) (hev : e.kind = 0 → 0 ≤ e.action ∧ e.action < (m.acts.length : Nat)) :
  CallA Tryz.prog 96 [pm x] [stpR x s e w, stoR s m b v wn] fun r own => (e.kind = 0 ∧ ¬ insS (addE m w.state e) ∧ r = it 2 ∧ own = [stoR s m b v wn]) ∨ (¬ (e.kind = 0 ∧ ¬ insS (addE m w.state e)) ∧ r = it 0 ∧ own = [stpR x s e { w with state := addE m w.state e }, stoR s m b v wn]) := by
 by_cases hk : e.kind = 0
 ·obtain ⟨h1, h2⟩ := hev hk
  obtain ⟨a, ha⟩ := get_of (l := m.acts) (i := e.action.toNat) (by omega)
  have hd := dltF_at ha
  have heo := hm.eff a (List.mem_of_getElem? ha)
  have hsl := hm.str
  have hadd : addE m w.state e = addD w.state a.eff.delta := by rw [addE, if_pos hk, hd]
  rw [hadd]
  have hc := clone_o w.state (by omega)
  have hin := inside35_p (addD w.state a.eff.delta)
  refine CallA.of pg ord96 Tryz.func96 rfl Tryz.ntmps96 Tryz.results96 rfl fun h0 G0 O0 => ?_
  repeat' (first|refine Sp.h ?_|refine Lk.r rfl ?_|refine Rf.mk rfl ?_|refine xA ?_|refine xT ?_|fail)
  (refine Cl.use (hc) (by repeat' (first|exact Lend.nil|apply Lend.keep|fail)) .nil rfl ?_;rintro _ _ ⟨_, rfl, rfl⟩)
  repeat' (first|refine Sp.h ?_|refine Lk.r rfl ?_|refine Rf.mk rfl ?_|refine OpK.r rfl ?_|refine Im.mk fun _=>?_|refine xT ?_|(apply Ix.r;(focus assumption);(focus omega))|refine xV ?_|refine xD ?_|fail)
  rename_i u _
  refine CA.loop (fun i : Nat => ⟨[(0, pm x), (37, terms a.eff.delta), (38, it (a.eff.delta.length : Nat)), (39, it i)], [arrR u 3 1 (addD w.state (a.eff.delta.take i)) intC, blkR x 161 [pm s, iv e.rep, iv e.num, iv e.time, ints e.past, iv e.kind, iv e.action, iv e.gk, iv e.gi, iv e.ge, iv e.ga, iv e.to, iv e.place, iv e.serial, ints w.clock, it w.time, .ow u, mgs w.merged, ints w.places], stoR s m b v wn]⟩) (fun i => i ≤ a.eff.delta.length) (fun i => a.eff.delta.length - i) 0 xE (Nat.zero_le _) ?_
  intro i hi
  have hlen := addD_length (a.eff.delta.take i) w.state
  by_cases hil : i < a.eff.delta.length
  ·obtain ⟨p, hp⟩ := get_of hil
   obtain ⟨p1, p2⟩ := heo.d p (List.mem_of_getElem? hp)
   obtain ⟨z, hz⟩ := get_of (l := addD w.state (a.eff.delta.take i)) (i := p.1.toNat) (by omega)
   have hs := addD_succ (s := w.state) hp
   rw [show add1 (addD w.state (a.eff.delta.take i)) p = (addD w.state (a.eff.delta.take i)).set p.1.toNat (IntKind.i64.wrap (z + p.2)) by rw [add1, hz];rfl] at hs
   repeat' (first|refine Sp.h ?_|refine Lk.r rfl ?_|refine Rf.mk rfl ?_|refine xA ?_|refine OpK.r rfl ?_|refine All.mk fun _=>?_|refine xU ?_|refine xT ?_|refine xI ?_|(apply Ix.r;(focus assumption);(focus omega))|refine xJ ?_|refine Ch.l ⟨rfl, rfl⟩ ?_|(apply SetAsk.r;focus repeat' constructor)|refine xN ?_|refine xD ?_|fail)
   refine ⟨?_⟩
   repeat' (first|refine Sp.h ?_|refine Lk.r rfl ?_|refine Rf.mk rfl ?_|refine OpK.r rfl ?_|refine xU ?_|(apply Ix.r;(focus assumption);(focus omega))|refine xJ ?_|refine xV ?_|refine Up.r rfl ?_|refine xO ?_|fail)
   rw [← hs]
   exact PA.lp (i + 1) xE ⟨hil, by omega⟩
  ·have hie : i = a.eff.delta.length := by omega
   subst hie
   rw [List.take_length] at hlen ⊢
   by_cases hS : insS (addD w.state a.eff.delta)
   ·rw [decide_eq_true hS] at hin
    repeat' (first|refine Sp.h ?_|refine Lk.r rfl ?_|refine Rf.mk rfl ?_|refine xB ?_|refine xT ?_|fail)
    (apply Cl.lend (hin);(focus repeat' (first|exact Lend.nil|(apply Lend.lend;(focus repeat constructor);(focus first|omega|(simp;omega)))|fail)))
    (repeat' (first|(show CA _ _ (Code.region 11 _ _) _ _;apply Stopped.out)|refine Sp.h ?_|refine Lk.r rfl ?_|refine xA ?_|fail));any_goals apply Stopped.mk
    (apply CA.own;(focus (apply OX.blk (b := x);(focus repeat constructor);(focus (repeat' (first|exact FX.nil|(apply FX.s1;(focus repeat constructor);(focus first|omega|(simp;done)|(simp;omega)))|apply FX.k)));(focus repeat constructor))))
    repeat' (first|refine Sp.h ?_|refine Lk.r rfl ?_|refine Rf.mk rfl ?_|refine xN ?_|fail)
    exact ⟨_, _, .one (.same (.z)), .inr ⟨fun h => h.2 hS, rfl, rfl⟩⟩
   ·rw [decide_eq_false hS] at hin
    repeat' (first|refine Sp.h ?_|refine Lk.r rfl ?_|refine Rf.mk rfl ?_|refine xB ?_|refine xT ?_|fail)
    (apply Cl.lend (hin);(focus repeat' (first|exact Lend.nil|(apply Lend.lend;(focus repeat constructor);(focus first|omega|(simp;omega)))|fail)))
    repeat' (first|refine Sp.h ?_|refine Lk.r rfl ?_|refine Rf.mk rfl ?_|refine xB ?_|refine xN ?_|fail)
    exact ⟨_, _, .one (.same (.z)), .inl ⟨hk, hS, rfl, rfl⟩⟩
 ·have hadd : addE m w.state e = w.state := if_neg hk
  rw [hadd]
  refine CallA.of pg ord96 Tryz.func96 rfl Tryz.ntmps96 Tryz.results96 rfl fun h0 G0 O0 => ?_
  repeat' (first|refine Sp.h ?_|refine Lk.r rfl ?_|refine Rf.mk rfl ?_|refine xB ?_|refine xT ?_|refine xN ?_|fail)
  exact ⟨_, _, .one (.same (.z)), .inr ⟨fun h => hk h.1, rfl, rfl⟩⟩
theorem applyT_p (m : ModS) (l : List MgS) (e : EvS) (hm : MOK m) : CallP Tryz.prog 105 [mdl m, mgs l, evA' e] (.tup [mgs (applyF m l e).2, it (applyF m l e).1]) := by
 by_cases h0 : (applyF m l e).1 = 0
 ·obtain ⟨h1, _, h3, _, h5⟩ := applyF_ok h0
  have := h1.1
  have := hm.mrg
  have hF : applyF m l e = (0, (applyF m l e).2) := by rw [← h0]
  rw [h0]
  exact applyOK_p m l e _ hm hF (by omega) h5
 ·refine CallA.fx (apply_a m l e hm) ?_
  have h2 : (applyF m l e).2 = [] := by
   unfold applyF at h0 ⊢
   split
   ·rfl
   ·rename_i h1
    rw [if_neg h1] at h0
    split
    ·rename_i h2;rw [if_pos h2] at h0;exact absurd rfl h0
    ·rename_i h2
     rw [if_neg h2] at h0
     unfold gatherF at h0 ⊢
     split
     ·rfl
     ·rename_i h3
      rw [h3] at h0
      simp only at h0
      split
      ·rfl
      ·rename_i h4;rw [if_neg h4] at h0;exact absurd rfl h0
  rw [h2]
  rintro r o (⟨v, L, h, _⟩|⟨_, rfl, rfl⟩)
  ·exact absurd h h0
  ·exact .tup (FX.kn (FX.refl _)) .nil
theorem update_a (x s : Nat) (m : ModS) (b : NowS) (v : Value) (wn : NowS) (e : EvS) (w : NowS) (hm : MOK m) :
  CallA Tryz.prog 97 [pm x] [stpR x s e w, stoR s m b v wn] fun r own => r = it (applyF m w.merged e).1 ∧ own = [stpR x s e { w with merged := (applyF m w.merged e).2 }, stoR s m b v wn] := by
 have ha := applyT_p m w.merged e hm
 refine CallA.of pg ord97 Tryz.func97 rfl Tryz.ntmps97 Tryz.results97 rfl fun h0 G0 O0 => ?_
 repeat' (first|refine Sp.h ?_|refine Lk.r rfl ?_|refine Rf.mk rfl ?_|refine OpK.r rfl ?_|refine xT ?_|refine Ch.r ?_|refine xV ?_|refine xN ?_|refine xD ?_|(apply Cl.p (ha);focus repeat' constructor))
 exact ⟨_, _, .one (.same (.z)), rfl, rfl⟩
theorem place_a (x s : Nat) (e : EvS) (w : NowS) (hp : SrtI w.places) (hl : w.places.length ≤ 100000) :
  CallA Tryz.prog 98 [pm x] [stpR x s e w] fun r own => r = it 0 ∧ own = [stpR x s e { w with places := plE w.places e }] := by
 have hw := with_p w.places e.place hp hl
 by_cases h : 0 < e.place
 ·rw [show plE w.places e = withP w.places e.place from if_pos h]
  refine CallA.of pg ord98 Tryz.func98 rfl Tryz.ntmps98 Tryz.results98 rfl fun h0 G0 O0 => ?_
  repeat' (first|refine Sp.h ?_|refine Lk.r rfl ?_|refine Rf.mk rfl ?_|refine xA ?_|refine OpK.r rfl ?_|refine xT ?_|refine xV ?_|refine xN ?_|refine xD ?_|(apply Cl.p (hw);focus repeat' constructor))
  exact ⟨_, _, .one (.same (.z)), rfl, rfl⟩
 ·rw [show plE w.places e = w.places from if_neg h]
  refine CallA.of pg ord98 Tryz.func98 rfl Tryz.ntmps98 Tryz.results98 rfl fun h0 G0 O0 => ?_
  repeat' (first|refine Sp.h ?_|refine Lk.r rfl ?_|refine Rf.mk rfl ?_|refine xB ?_|refine xT ?_|refine xN ?_|(apply Cl.p (hw);(focus repeat' (first|fail))))
  exact ⟨_, _, .one (.same (.z)), rfl, rfl⟩
theorem svalid_p (s : Nat) (m : ModS) (b : NowS) (v : Value) (w : NowS) (e : EvS) :
  CallA Tryz.prog 90 [pm s, evA' e] [stoR s m b v w] fun r own => r = bl (decide (EvV m (w.clock.length : Nat) e)) ∧ own = [stoR s m b v w] := by
 have hv := evalid_p m (w.clock.length : Nat) e
 refine CallA.of pg ord90 Tryz.func90 rfl Tryz.ntmps90 Tryz.results90 rfl fun h0 G0 O0 => ?_
 repeat' (first|refine Sp.h ?_|refine Lk.r rfl ?_|refine Rf.mk rfl ?_|refine OpK.r rfl ?_|refine Im.mk fun _=>?_|refine All.mk fun _=>?_|refine xT ?_|refine Ch.l ⟨rfl, rfl⟩ ?_|refine Ch.r ?_|refine xN ?_|refine xD ?_|(apply Cl.p (hv);focus repeat' constructor))
 exact ⟨_, _, .one (.same (.z)), rfl, rfl⟩
end Go.Proofs.YtmjllbjfkafhdaaGreatDoor
namespace Go.CF
open Go
def AV.fb (f : FuncId) (bs : List AV) : AV := ⟨fun h G u => ∃ vs, u = .func (.func f) vs.toArray #[] ∧ RepT h G vs bs, by rintro h h' G v x ⟨vs, e, r⟩;exact ⟨vs, e, r.stp x⟩, by rintro h G G' v x ⟨vs, e, r⟩;exact ⟨vs, e, r.mono x⟩⟩
section
variable {Γ : Cx} {k : List KI} {e : EA} {o : List Res} {N : NA} {c : Cls} {d : Tmp} {ty : TypeId} {x y : Operand}
instance {f : FuncId} {bs : List AV} : OneA (.fb f bs) := ⟨by rintro h G u ⟨vs, rfl, _⟩;rfl⟩
instance {f : FuncId} : Sp (SA Γ c (some d) (.makeFunc (.func f) #[x] #[]) ty e o N) (Lk (evAs e [x]) fun cs => N ((d, .fb f cs) :: e) o) := ⟨fun ⟨cs, hcs, hn⟩ => ⟨fun env hp G Os c => by
 obtain ⟨vs, h1, h2⟩ := c.gets hcs
 exact St.makeFunc (l2 := []) h1 rfl (CN.mk (c.put d (a := .fb f cs) ⟨vs, rfl, h2⟩) hn)⟩⟩
instance {f : FuncId} {cs asx : List AV} {args : Array Operand} {tys : Array TypeId} : Sp (ClF Γ c d x args tys ty e o N (.fb f cs) asx) (Rf (Γ.fp.n = none) (Rf (Γ.en f = true) (Cl Γ c f (cs ++ asx) o fun r o' => N ((d, r) :: e) o'))) := ⟨fun ⟨hfp, he, h⟩ => ⟨fun ha hb hc => ⟨fun env hh G Os cn => by
 obtain ⟨v, g1, ws, rfl, g2⟩ := cn.get ha
 obtain ⟨vs, g3, g4⟩ := cn.gets hb
 exact St.callT (cap := []) Γ.ok g1 g3 he hc (by rw [List.append_nil];exact (cl_sa (dst := some d) cn (g2.app g4) hfp h).mono fun v h' hk => hk.2)⟩⟩⟩
end
end Go.CF
namespace Go.Proofs.YtmjllbjfkafhdaaGreatDoor
open Go Go.CF
set_option maxRecDepth 20000
structure NowOK (m : ModS) (w : NowS) : Prop where
 clk : ValC w.clock
 st : w.state.length = strF m
 pls : SrtI w.places
 pll : w.places.length ≤ 100000
theorem alike2' (a b : List Int) : AlikeC [a, b] ↔ ValC a ∧ ValC b ∧ a.length = b.length := alike2 a b
noncomputable def evsD (m : ModS) (evs : List EvS) (w : NowS) (e : EvS) : List EvS := if (deliverF m evs w e).1 = 0 then evs ++ [e] else evs
noncomputable def wI (m : ModS) (w : NowS) (e : EvS) : Nat → NowS
 | 0 => w
 | 1 => { w with clock := cntF w.clock e }
 | 2 => { w with clock := cntF w.clock e, time := max w.time e.time }
 | 3 => { w with clock := cntF w.clock e, time := max w.time e.time, state := addE m w.state e }
 | 4 => { w with clock := cntF w.clock e, time := max w.time e.time, state := addE m w.state e, merged := (applyF m w.merged e).2 }
 | _ => ⟨cntF w.clock e, max w.time e.time, addE m w.state e, (applyF m w.merged e).2, plE w.places e⟩
def fnL (x : Nat) : List (List AV) := [[AV.fb 94 [pm x]], [AV.fb 95 [pm x]], [AV.fb 96 [pm x]], [AV.fb 97 [pm x]], [AV.fb 98 [pm x]]]
theorem act_rng {e : EvS} (h : FormedE e) (hk : e.kind = 0) : 0 ≤ e.action := by
 have := (kind0 hk).1 h.2.2.2.2.2
 unfold Sub0 Btw at this
 omega
set_option maxHeartbeats 8000000 in
theorem deliver_a (s : Nat) (m : ModS) (b : NowS) (v : Value) (evl : List EvS) (w : NowS) (e : EvS) (hm : MOK m) (hw : NowOK m w) (hl : evl.length ≤ 100000) :
  CallA Tryz.prog 37 [pm s, evA' e] [stoR s m b v w, arrR v 66 13 evl evC] fun r own => r = it (deliverF m evl w e).1 ∧ ∃ v', own = [stoR s m b v' (deliverF m evl w e).2, arrR v' 66 13 (evsD m evl w e) evC] := by
 have hva := svalid_p s m b v w e
 by_cases h1 : EvV m (w.clock.length : Nat) e
 rotate_left
 ·have hF : deliverF m evl w e = (1, w) := by rw [deliverF, if_pos h1]
  rw [decide_eq_false h1] at hva
  rw [evsD, hF]
  refine CallA.of pg ord37 Tryz.func37 rfl Tryz.ntmps37 Tryz.results37 rfl fun h0 G0 O0 => ?_
  repeat' (first|refine Sp.h ?_|refine Lk.r rfl ?_|refine Rf.mk rfl ?_|refine All.mk fun _=>?_|refine xT ?_|refine Ch.l ⟨rfl, rfl⟩ ?_|fail)
  refine xW (hva) ?_
  rintro _ _ ⟨rfl, rfl⟩
  repeat' (first|refine Sp.h ?_|refine Lk.r rfl ?_|refine Rf.mk rfl ?_|refine xB ?_|refine xN ?_|fail)
  exact ⟨_, _, .one (.same (.z)), rfl, v, rfl⟩
 rw [decide_eq_true h1] at hva
 have hn := name35_p e
 have hh := hasC_p w.clock e.rep e.num
 by_cases h2 : HasC w.clock e.rep e.num
 ·have hF : deliverF m evl w e = (6, w) := by rw [deliverF, if_neg (fun h => h h1), if_pos h2]
  rw [decide_eq_true h2] at hh
  rw [evsD, hF]
  refine CallA.of pg ord37 Tryz.func37 rfl Tryz.ntmps37 Tryz.results37 rfl fun h0 G0 O0 => ?_
  repeat' (first|refine Sp.h ?_|refine Lk.r rfl ?_|refine Rf.mk rfl ?_|refine All.mk fun _=>?_|refine xT ?_|refine Ch.l ⟨rfl, rfl⟩ ?_|fail)
  refine xW (hva) ?_
  rintro _ _ ⟨rfl, rfl⟩
  repeat' (first|refine Sp.h ?_|refine Lk.r rfl ?_|refine Rf.mk rfl ?_|refine xA ?_|refine OpK.r rfl ?_|refine xT ?_|refine Ch.l ⟨rfl, rfl⟩ ?_|refine xN ?_|refine xD ?_|(apply Cl.p (hn);focus (repeat' constructor);done)|(apply Cl.p (hh);focus (repeat' constructor);done))
  exact ⟨_, _, .one (.same (.z)), rfl, v, rfl⟩
 rw [decide_eq_false h2] at hh
 have hmi := missing_o w.clock e.past
 have hal : AlikeC [w.clock, e.past] := (alike2 _ _).2 ⟨hw.clk, h1.1.1, by have := h1.2.1;omega⟩
 by_cases h3 : Ins e.past w.clock
 rotate_left
 ·have hF : deliverF m evl w e = (9, w) := by rw [deliverF, if_neg (fun h => h h1), if_neg h2, if_pos h3]
  rw [evsD, hF]
  refine CallA.of pg ord37 Tryz.func37 rfl Tryz.ntmps37 Tryz.results37 rfl fun h0 G0 O0 => ?_
  repeat' (first|refine Sp.h ?_|refine Lk.r rfl ?_|refine Rf.mk rfl ?_|refine All.mk fun _=>?_|refine xT ?_|refine Ch.l ⟨rfl, rfl⟩ ?_|fail)
  refine xW (hva) ?_
  rintro _ _ ⟨rfl, rfl⟩
  repeat' (first|refine Sp.h ?_|refine Lk.r rfl ?_|refine Rf.mk rfl ?_|refine xA ?_|refine OpK.r rfl ?_|refine xT ?_|refine Ch.l ⟨rfl, rfl⟩ ?_|refine xD ?_|(apply Cl.p (hn);focus (repeat' constructor);done)|(apply Cl.p (hh);focus (repeat' constructor);done))
  refine xW (hmi) ?_
  rintro _ _ ⟨u, l, rfl, rfl, hl1, hl2⟩
  have hl0 : 0 < l.length := List.length_pos_iff.2 fun h => h3 (hl1.1 h hal)
  repeat' (first|refine Sp.h ?_|refine Lk.r rfl ?_|refine Rf.mk rfl ?_|refine xA ?_|refine OpK.r rfl ?_|refine xU ?_|refine xN ?_|fail)
  exact ⟨_, _, .one (.same (.z)), rfl, v, rfl⟩
 have hrep : 0 ≤ e.rep ∧ e.rep.toNat < w.clock.length := by
  obtain ⟨_, f2, ⟨x, f3, _⟩, _⟩ := h1.1
  have := (List.getElem?_eq_some_iff.1 f3).1
  exact ⟨f2, by have := h1.2.1;omega⟩
 have hcl := hw.clk.2.2
 have hc4 : ∀ k, (wI m w e k).places = w.places ∨ 5 ≤ k := fun k => by
  match k with
  | 0 => exact .inl rfl
  | 1 => exact .inl rfl
  | 2 => exact .inl rfl
  | 3 => exact .inl rfl
  | 4 => exact .inl rfl
  | k + 5 => exact .inr (by omega)
 refine CallA.of pg ord37 Tryz.func37 rfl Tryz.ntmps37 Tryz.results37 rfl fun h0 G0 O0 => ?_
 repeat' (first|refine Sp.h ?_|refine Lk.r rfl ?_|refine Rf.mk rfl ?_|refine All.mk fun _=>?_|refine xT ?_|refine Ch.l ⟨rfl, rfl⟩ ?_|fail)
 rename_i b3
 refine xW (hva) ?_
 rintro _ _ ⟨rfl, rfl⟩
 repeat' (first|refine Sp.h ?_|refine Lk.r rfl ?_|refine Rf.mk rfl ?_|refine xA ?_|refine OpK.r rfl ?_|refine xT ?_|refine Ch.l ⟨rfl, rfl⟩ ?_|refine xD ?_|(apply Cl.p (hn);focus (repeat' constructor);done)|(apply Cl.p (hh);focus (repeat' constructor);done))
 refine xW (hmi) ?_
 rintro _ _ ⟨u, l, rfl, rfl, hl1, hl2⟩
 have hl0 : l.length = 0 := by rw [hl1.2 fun _ => h3];rfl
 repeat' (first|refine Sp.h ?_|refine Lk.r rfl ?_|refine Rf.mk rfl ?_|refine xB ?_|refine OpK.r rfl ?_|refine All.mk fun _=>?_|refine xU ?_|refine xT ?_|refine Ch.l ⟨rfl, rfl⟩ ?_|refine Ch.r ?_|(apply Fk.r;focus repeat' first|infer_instance|constructor)|refine Rf.mk ⟨rfl, rfl, rfl⟩ ?_|refine xD ?_|fail)
 rename_i x q
 refine CA.loop (fun i : Nat => ⟨[(0, pm s), (3, pm b3), (5, pm x), (52, .ow q), (53, it 5), (54, it i)], [stoR s m b v w, arrR v 66 13 evl evC, blkR b3 66 (evC e), stpR x s e (wI m w e i), arrR q 162 1 (fnL x) id]⟩)
  (fun i => i ≤ 5 ∧ (2 ≤ i → ¬ LateE evl e) ∧ (3 ≤ i → ¬ (e.kind = 0 ∧ ¬ insS (addE m w.state e))) ∧ (4 ≤ i → (applyF m w.merged e).1 = 0)) (fun i => 5 - i) 0 xE ⟨by omega, fun h => by omega, fun h => by omega, fun h => by omega⟩ ?_
 rintro i ⟨hi, i2, i3, i4⟩
 match i, hi with
 | 0, _ =>
  have hq : (fnL x)[0]? = some [AV.fb 94 [pm x]] := rfl
  have hc := count_a x s e w hrep.1 hrep.2 hcl
  repeat' (first|refine Sp.h ?_|refine Lk.r rfl ?_|refine Rf.mk rfl ?_|refine xA ?_|refine xU ?_|refine xI ?_|refine xJ ?_|fail)
  refine xW (hc) ?_
  rintro _ _ ⟨rfl, rfl⟩
  repeat' (first|refine Sp.h ?_|refine Lk.r rfl ?_|refine Rf.mk rfl ?_|refine xA ?_|refine xO ?_|fail)
  exact PA.lp 1 xE ⟨⟨by omega, fun h => by omega, fun h => by omega, fun h => by omega⟩, by omega⟩
 | 1, _ =>
  have hq : (fnL x)[1]? = some [AV.fb 95 [pm x]] := rfl
  have hc := order_a x s m b v evl w e (wI m w e 1) (by omega)
  repeat' (first|refine Sp.h ?_|refine Lk.r rfl ?_|refine Rf.mk rfl ?_|refine xA ?_|refine xU ?_|refine xI ?_|refine xJ ?_|fail)
  refine xW (hc) ?_
  rintro _ _ (⟨hL, rfl, rfl⟩|⟨hL, rfl, rfl⟩)
  ·have hF : deliverF m evl w e = (2, w) := by rw [deliverF, if_neg (fun h => h h1), if_neg h2, if_neg (fun h => h h3), if_pos hL]
   rw [evsD, hF]
   repeat' (first|refine Sp.h ?_|refine Lk.r rfl ?_|refine Rf.mk rfl ?_|refine xB ?_|refine xN ?_|fail)
   exact ⟨_, _, .one (.same (.z)), rfl, v, rfl⟩
  ·repeat' (first|refine Sp.h ?_|refine Lk.r rfl ?_|refine Rf.mk rfl ?_|refine xA ?_|refine xO ?_|fail)
   exact PA.lp 2 xE ⟨⟨by omega, fun _ => hL, fun h => by omega, fun h => by omega⟩, by omega⟩
 | 2, _ =>
  have hq : (fnL x)[2]? = some [AV.fb 96 [pm x]] := rfl
  have hL := i2 (by omega)
  have hc := sadd_a x s m b v w e (wI m w e 2) hm hw.st (fun hk => ⟨act_rng h1.1 hk, h1.2.2 hk⟩)
  repeat' (first|refine Sp.h ?_|refine Lk.r rfl ?_|refine Rf.mk rfl ?_|refine xA ?_|refine xU ?_|refine xI ?_|refine xJ ?_|fail)
  refine xW (hc) ?_
  rintro _ _ (⟨hk, hL2, rfl, rfl⟩|⟨hL2, rfl, rfl⟩)
  ·have hF : deliverF m evl w e = (2, w) := by rw [deliverF, if_neg (fun h => h h1), if_neg h2, if_neg (fun h => h h3), if_neg hL, if_pos ⟨hk, hL2⟩]
   rw [evsD, hF]
   repeat' (first|refine Sp.h ?_|refine Lk.r rfl ?_|refine Rf.mk rfl ?_|refine xB ?_|refine xN ?_|fail)
   exact ⟨_, _, .one (.same (.z)), rfl, v, rfl⟩
  ·repeat' (first|refine Sp.h ?_|refine Lk.r rfl ?_|refine Rf.mk rfl ?_|refine xA ?_|refine xO ?_|fail)
   exact PA.lp 3 xE ⟨⟨by omega, fun _ => hL, fun _ => hL2, fun h => by omega⟩, by omega⟩
 | 3, _ =>
  have hq : (fnL x)[3]? = some [AV.fb 97 [pm x]] := rfl
  have hL := i2 (by omega)
  have hL2 := i3 (by omega)
  have hc := update_a x s m b v w e (wI m w e 3) hm
  by_cases hA : (applyF m w.merged e).1 = 0
  ·repeat' (first|refine Sp.h ?_|refine Lk.r rfl ?_|refine Rf.mk rfl ?_|refine xA ?_|refine xU ?_|refine xI ?_|refine xJ ?_|fail)
   refine xW (hc) ?_
   rintro _ _ ⟨rfl, rfl⟩
   simp only [wI]
   repeat' (first|refine Sp.h ?_|refine Lk.r rfl ?_|refine Rf.mk rfl ?_|refine xA ?_|refine xO ?_|fail)
   exact PA.lp 4 xE ⟨⟨by omega, fun _ => hL, fun _ => hL2, fun _ => hA⟩, by omega⟩
  ·have hF : deliverF m evl w e = ((applyF m w.merged e).1, w) := by rw [deliverF, if_neg (fun h => h h1), if_neg h2, if_neg (fun h => h h3), if_neg hL, if_neg hL2, if_pos hA]
   rw [evsD, hF]
   repeat' (first|refine Sp.h ?_|refine Lk.r rfl ?_|refine Rf.mk rfl ?_|refine xA ?_|refine xU ?_|refine xI ?_|refine xJ ?_|fail)
   refine xW (hc) ?_
   rintro _ _ ⟨rfl, rfl⟩
   simp only [wI]
   rw [if_neg hA]
   repeat' (first|refine Sp.h ?_|refine Lk.r rfl ?_|refine Rf.mk rfl ?_|refine xB ?_|refine xN ?_|fail)
   exact ⟨_, _, .one (.same (.z)), rfl, v, rfl⟩
 | 4, _ =>
  have hq : (fnL x)[4]? = some [AV.fb 98 [pm x]] := rfl
  have hc := place_a x s e (wI m w e 4) hw.pls hw.pll
  repeat' (first|refine Sp.h ?_|refine Lk.r rfl ?_|refine Rf.mk rfl ?_|refine xA ?_|refine xU ?_|refine xI ?_|refine xJ ?_|fail)
  refine xW (hc) ?_
  rintro _ _ ⟨rfl, rfl⟩
  repeat' (first|refine Sp.h ?_|refine Lk.r rfl ?_|refine Rf.mk rfl ?_|refine xA ?_|refine xO ?_|fail)
  exact PA.lp 5 xE ⟨⟨by omega, fun _ => i2 (by omega), fun _ => i3 (by omega), fun _ => i4 (by omega)⟩, by omega⟩
 | 5, _ =>
  have hL := i2 (by omega)
  have hL2 := i3 (by omega)
  have hA := i4 (by omega)
  have hF : deliverF m evl w e = (0, wI m w e 5) := by rw [deliverF, if_neg (fun h => h h1), if_neg h2, if_neg (fun h => h h3), if_neg hL, if_neg hL2, if_neg (fun h => h hA)];rfl
  have hpl := h1.1.1.2.2
  have hce := cloneEs_p [e] (by simp) (fun d hd => by rw [List.mem_singleton.1 hd];omega)
  rw [evsD, hF, if_pos rfl]
  repeat' (first|refine Sp.h ?_|refine Lk.r rfl ?_|refine Rf.mk rfl ?_|refine xB ?_|refine OpK.r rfl ?_|refine All.mk fun _=>?_|refine xT ?_|refine Ch.l ⟨rfl, rfl⟩ ?_|refine Ch.r ?_|(apply SetAsk.r;focus repeat' constructor)|(apply Fk.r;focus repeat' first|infer_instance|constructor)|refine Rf.mk ⟨rfl, rfl, rfl⟩ ?_|refine xD ?_|fail)
  apply Cl.fx [evs [e]]
  focus (apply FX.sl;(focus repeat constructor);(focus exact Nat.le_of_ble_eq_true rfl);(focus exact FX.le (ALe.refl _) FX.nil);(focus exact FX.nil))
  repeat' (first|refine Sp.h ?_|refine Lk.r rfl ?_|refine Rf.mk rfl ?_|refine OpK.r rfl ?_|refine xP ?_|refine All.mk fun _=>?_|refine xU ?_|refine xT ?_|refine Ce.r ?_|refine xV ?_|refine xN ?_|refine Rf.mk ⟨rfl, rfl⟩ ?_|refine Mp.same ?_|(apply Cl.p (hce);focus repeat' constructor))
  exact ⟨_, _, .one (.same (.z)), rfl, _, rfl⟩
end Go.Proofs.YtmjllbjfkafhdaaGreatDoor
namespace Go.CF
open Go
section
variable {Γ : Cx} {k : List KI} {e : EA} {o : List Res} {N : NA} {c : Cls} {d : Tmp} {ty : TypeId} {x y z : Operand} {t u : TypeId} {kk : IntKind} {i : Int}
instance {v : Value} {s j m : Nat} : Sp (Ap1 Γ c d (.call { callee := .builtin .len, args := #[x], argTypes := #[t] }) ty e o N x (.os v s j m)) (Lk (slE Γ.tt t) fun _ => N ((d, .val (.int .i64 (m : Int))) :: e) o) := ⟨fun ⟨p, hp, hn⟩ => ⟨fun ha => ⟨fun env hh G Os cn => by
 obtain ⟨w, h1, q, len, cap, rfl, hle, rfl⟩ := cn.get ha
 obtain ⟨ti, t1, t2, t3⟩ := slE_spec hp
 exact St.len Γ.ok t1 t2 h1 (CN.mk (cn.put d (a := .val _) rfl) hn)⟩⟩⟩
instance {v : Value} {s j m : Nat} : Sp (Ap2 Γ c d (.indexAddr t x y) ty e o N x (.os v s j m) y (.val (.int kk i))) (Lk (slE Γ.tt t) fun p => TkA o v fun _ sz _ _ _ => Rf (p.2.size = sz ∧ s = sz) (Sx i m fun q => N ((d, .oe v sz (j + q) 0) :: e) o)) := ⟨fun ⟨p, hp, α, T, sz, l, f, rest, tk, hz, q, hi, hq, hn⟩ => ⟨fun ha hb => ⟨fun env hh G Os cn => by
 obtain ⟨hz, rfl⟩ := hz
 obtain ⟨w, h1, q', len, cap, rfl, hle, rfl⟩ := cn.get ha
 obtain ⟨w', h1', h2'⟩ := cn.get hb
 have hw : w' = .int kk i := h2'
 subst hw
 obtain ⟨O, Os', cn2⟩ := cn.take tk
 obtain ⟨⟨_, rows, hw, _⟩, _⟩ := cn2.hp.own
 obtain ⟨ti, t1, t2, t3⟩ := slE_spec hp
 rcases hw.ok with ⟨he, h0⟩|⟨b, of, cap', L, he, _, _, hcap, _⟩
 ·cases he;omega
 ·cases he
  have hs : subA (some ⟨b, of, none⟩) s j cap = some ⟨b, of + j * s, none⟩ := by
   unfold subA
   rw [if_neg (by omega)]
   simp [addr_add]
  rw [hs] at h1
  exact St.indexAddr Γ.ok t1 t2 t3 h1 h1' hi hq (CN.mk (cn.put d (a := .oe _ s (j + q) 0) ⟨b, of, _, cap, rfl, by rw [hz, Nat.add_zero, Nat.add_mul, Nat.add_assoc]⟩) hn)⟩⟩⟩
theorem ALe.tup {l m : List AV} (r : RLe l m) : ALe (.tup l) (.tup m) := ⟨fun ⟨vs, h1, h2⟩ => ⟨vs, h1, r.rep h2⟩⟩
theorem ALe.agg {l m : List AV} (r : RLe l m) : ALe (.agg l) (.agg m) := ⟨fun ⟨vs, h1, h2⟩ => ⟨vs, h1, ⟨r.rep h2.t, h2.one⟩⟩⟩
end

/-! ### The library's sorts -/
section
open Go.Sort
theorem putCells_list {α : Type} [Inhabited α] (enc : α → Value) (o : Nat) (d : List α) (c : List Value) (hd : o + d.length ≤ c.length) :
  putCells enc o d.toArray c.toArray = (c.take o ++ d.map enc ++ c.drop (o + d.length)).toArray := by
 apply Array.ext'
 simp only [putCells]
 refine List.ext_getElem? fun q => ?_
 simp only [Array.toList_mapIdx, List.getElem?_mapIdx, List.size_toArray]
 by_cases g1 : q < o
 ·have h2 : q < c.length := by omega
  rw [List.append_assoc, List.getElem?_append_left (by simp;omega), List.getElem?_take, if_pos g1, List.getElem?_eq_getElem h2, Option.map_some, if_neg (by omega)]
 ·by_cases g2 : q < o + d.length
  ·have h2 : q < c.length := by omega
   have h3 : q - o < d.length := by omega
   rw [List.getElem?_append_left (by simp;omega), List.getElem?_append_right (by simp;omega), List.getElem?_eq_getElem h2, Option.map_some, if_pos (by omega), List.length_take, Nat.min_eq_left (by omega), List.getElem?_map, List.getElem?_eq_getElem h3]
   simp [getElem!_pos, h3]
  ·rw [List.getElem?_append_right (by simp;omega), List.getElem?_drop]
   simp only [List.length_append, List.length_take, List.length_map, Nat.min_eq_left (show o ≤ c.length by omega)]
   rw [show o + d.length + (q - (o + d.length)) = q by omega]
   cases hq : c[q]? with
   | none => rfl
   | some x => rw [Option.map_some, if_neg (by omega)]
theorem flat_one {α β : Type} (g : α → β) : ∀ l : List α, (l.map fun x => [g x]).flatten = l.map g
 | [] => rfl
 | a :: l => by simp [flat_one g l]
theorem put_own {α : Type} [Inhabited α] {enc : α → Value} {w w' : World} {b of n cap len T sz : Nat} {L : List Value} {ds : List α} {os : Array Obj} (hb : Blk w.heap b T L) (ho : of + cap * sz ≤ L.length) (hlen : len ≤ cap) (hd : ds.length = len * sz)
  (hw' : w' = Sort.grow (putRow enc (Sort.ahead w n) b of ds.toArray) os) :
  Same w w' ∧ FPx (fun x => ¬ x = b) w.heap w'.heap ∧ Own w'.heap (.slice (some ⟨b, of, none⟩) len cap) T sz len (ds.map enc) := by
 have hm : len * sz ≤ cap * sz := Nat.mul_le_mul_right _ hlen
 have hg := hb.get
 have hlt := (Array.getElem?_eq_some_iff.1 hg).1
 have hh : w'.heap = w.heap.modify b (onCells (putCells enc of ds.toArray)) ++ os := by rw [hw'];rfl
 refine ⟨⟨by subst hw';rfl, by subst hw';rfl, by subst hw';rfl, by subst hw';exact Nat.le_add_right _ _, by rw [hh];simp, fun k o hk ho => ?_⟩, ⟨?_, fun q hq hl => ?_⟩, by simp [hd], .inr ⟨b, of, cap, L.take of ++ ds.map enc ++ L.drop (of + ds.length), rfl, ⟨?_⟩, ?_, hlen, ?_⟩⟩
 ·have hkl := (Array.getElem?_eq_some_iff.1 hk).1
  rw [hh, Array.getElem?_append_left (by simpa using hkl), Array.getElem?_modify]
  by_cases hkb : b = k
  ·subst hkb;rw [hg] at hk;cases hk;cases ho
  ·rw [if_neg hkb];exact hk
 ·rw [hh];simp
 ·rw [hh, Array.getElem?_append_left (by simpa using hl), Array.getElem?_modify, if_neg (fun e => hq e.symm)]
 ·rw [hh, Array.getElem?_append_left (by simpa using hlt), Array.getElem?_modify, if_pos rfl, hg, Option.map_some]
  simp only [onCells]
  rw [putCells_list enc of ds L (by omega)]
 ·simp only [List.length_append, List.length_take, List.length_map, List.length_drop]
  omega
 ·rw [List.append_assoc, List.drop_append_of_le_length (by simp;omega), List.drop_eq_nil_of_le (by simp;omega), List.nil_append, List.take_append_of_le_length (by simp;omega), List.take_of_length_le (by simp;omega)]
theorem holds_blk {w : World} {b of T : Nat} {L : List Value} (hb : Blk w.heap b T L) {α : Type} [Inhabited α] (enc : α → Value) (ds : List α) (hd : (L.drop of).take ds.length = ds.map enc) : Holds enc w b of ds.toArray := by
 intro j hj
 have hj : j < ds.length := by simpa using hj
 have h1 : ((L.drop of).take ds.length)[j]? = some (enc ds[j]) := by rw [hd];simp [hj]
 rw [List.getElem?_take, if_pos hj, List.getElem?_drop] at h1
 have hg := hb.get
 constructor
 ·simp only [World.cell?, hg]
  simp [h1, hj]
 ·simp [World.frozen?, hg]
open Go.Proofs in
theorem sortI_a {P : Program} {ρ : Shelf.Ren} (L : Lays.n189 P ρ) (v : Value) (T : TypeId) (l : List Int) (hl : l.length ≤ 1000000) :
  CallA P (ρ.f 189) [.ow v] [arrR v T 1 l fun x => [.val (.int .i64 x)]] fun r own => r = .tup [] ∧ own = [arrR v T 1 (l.mergeSort fun x y => decide (x ≤ y)) fun x => [.val (.int .i64 x)]] := by
 refine ⟨fun h G Os vs hr hp => ?_⟩
 match vs, hr with
 | [w0], ⟨⟨h1, p, len, cap, h2⟩, _⟩ =>
  subst h1
  match Os, hp with
  | [O], hp =>
   obtain ⟨⟨hO, rows, hown, hrows⟩, _⟩ := hp.own
   have hflat : rows.flatten = l.map (Value.int .i64) := by
    have h3 : rows = l.map fun x => [Value.int .i64 x] := by
     refine List.ext_getElem? fun q => ?_
     rw [List.getElem?_map]
     cases hq : l[q]? with
     | none =>
      have := List.getElem?_eq_none_iff.1 hq
      have := hrows.len
      rw [List.getElem?_eq_none (by omega)];rfl
     | some x =>
      obtain ⟨row, g1, g2, _⟩ := hrows.at hq
      rw [g1]
      have : row = [Value.int .i64 x] := repT_val (r := [.int .i64 x]) g2.t
      rw [this];rfl
    rw [h3, flat_one]
   have fin : ∀ rows', rows' = (l.mergeSort fun x y => decide (x ≤ y)).map (fun x => [Value.int .i64 x]) → ∀ h' G', Rows h' G' 1 rows' (l.mergeSort fun x y => decide (x ≤ y)) fun x => [AV.val (.int .i64 x)] := by
    rintro _ rfl h' G'
    refine ⟨by simp, fun q r x g1 g2 => ?_, fun r hr => ?_⟩
    ·rw [List.getElem?_map, g2] at g1
     cases g1
     exact ⟨⟨rfl, trivial⟩, by simp [Value.oneCell']⟩
    ·obtain ⟨x, _, rfl⟩ := List.mem_map.1 hr;rfl
   have hff : ∀ s : List Int, (s.map fun x => [Value.int .i64 x]).flatten = s.map (Value.int .i64) := fun s => flat_one _ s
   rw [hflat] at hown
   refine ⟨fun w hw => ?_⟩
   subst hw
   rcases hown.ok with ⟨he, h0⟩|⟨b, of, cap', L', he, hb, h3, h4, h5⟩
   ·have hl0 : l = [] := List.eq_nil_of_length_eq_zero h0
    subst hl0
    subst he
    refine (Any.slices_Sort_int_none L none 0 w).mono ?_
    rintro e w' ⟨rfl, rfl⟩
    exact ⟨_, rfl, Same.refl _, .tup [], _, G, [O], ⟨rfl, rfl⟩, ⟨[], rfl, trivial⟩, ⟨⟨⟨hO, rows, by rw [hflat];simpa using hown, by simpa using hrows⟩, trivial⟩, hp.g, hp.g0, hp.o, hp.d, hp.fp⟩⟩
   ·subst he
    rw [Nat.mul_one] at h3 h5
    have hH := holds_blk hb (Value.int .i64) l (by simpa using h5)
    refine (calls_of_every_depth fun D => AnyS.slices_Sort_int_in L.lead D b of cap' l w hH hb.lt (by omega)).mono ?_
    rintro e w' ⟨rfl, n, os, hw'⟩
    obtain ⟨k1, k2, k3⟩ := put_own (ds := l.mergeSort fun x y => decide (x ≤ y)) (sz := 1) (len := l.length) (cap := cap') hb (by omega) h4 (by simp) hw'
    have hOb : ∀ x, O x ↔ x = b := fun x => by rw [hO];simp [blkOf]
    have k2' : FPx (fun x => ¬ O x) w.heap w'.heap := k2.mono fun x hx e => hx ((hOb x).2 e)
    obtain ⟨k4, _⟩ := hp.upd (R' := arrR (.slice (some ⟨b, of, none⟩) l.length cap') T 1 (l.mergeSort fun x y => decide (x ≤ y)) fun x => [.val (.int .i64 x)]) (O' := O) k2'
     (fun x hx => ⟨Nat.lt_of_lt_of_le (hp.o O (by simp) x hx).1 k2.size, .inl hx⟩)
     ⟨hO, _, by rw [hff];simpa using k3, fin _ rfl _ _⟩
    exact ⟨_, rfl, k1, .tup [], _, G, [O], ⟨rfl, rfl⟩, ⟨[], rfl, trivial⟩, k4⟩
end
end Go.CF
namespace Go.Proofs.YtmjllbjfkafhdaaGreatDoor
open Go Go.CF
set_option maxRecDepth 20000
structure SzN (b : NowS) : Prop where
 c : b.clock.length ≤ 100000
 s : b.state.length ≤ 100000
 m : b.merged.length ≤ 100000
 k : ∀ g ∈ b.merged, g.marks.length ≤ 1000000
 p : b.places.length ≤ 100000
set_option maxHeartbeats 2000000 in
theorem cloneBase_a (b : NowS) (r s : AV) (h : SzN b) :
  CallA Tryz.prog 104 [.agg [ints b.clock, it b.time, ints b.state, mgs b.merged, r, s, ints b.places]] [] fun q own => ∃ v1 v2 v3 L v4, q = .agg [.ow v1, it b.time, .ow v2, .ow v3, nl0, nl0, .ow v4] ∧ L.map MgE.g = b.merged ∧
   own = [arrR v4 3 1 b.places intC, arrR v3 231 3 L mgeC, bunR (L.map mgeR), arrR v2 3 1 b.state intC, arrR v1 3 1 b.clock intC] := by
 have h1 := clone_o b.clock (by have := h.c;omega)
 have h2 := clone_o b.state (by have := h.s;omega)
 have h3 := cloneM_a b.merged (by have := h.m;omega) h.k
 have h4 := clone_o b.places (by have := h.p;omega)
 refine CallA.of pg ord104 Tryz.func104 rfl Tryz.ntmps104 Tryz.results104 rfl fun h0 G0 O0 => ?_
 repeat' (first|refine Sp.h ?_|refine Lk.r rfl ?_|refine Rf.mk rfl ?_|refine OpK.r rfl ?_|refine All.mk fun _=>?_|refine xT ?_|refine xN ?_|refine xD ?_|fail)
 (refine Cl.use (h1) (by repeat' (first|exact Lend.nil|apply Lend.keep|fail)) .nil rfl ?_;rintro _ _ ⟨_, rfl, rfl⟩)
 repeat' (first|refine Sp.h ?_|refine Lk.r rfl ?_|refine Rf.mk rfl ?_|refine OpK.r rfl ?_|fail)
 (refine Cl.use (h2) (by repeat' (first|exact Lend.nil|apply Lend.keep|fail)) .nil rfl ?_;rintro _ _ ⟨_, rfl, rfl⟩)
 repeat' (first|refine Sp.h ?_|refine Lk.r rfl ?_|refine Rf.mk rfl ?_|refine OpK.r rfl ?_|fail)
 refine xW (h3) ?_
 rintro _ _ ⟨v3, L, rfl, hL, rfl⟩
 repeat' (first|refine Sp.h ?_|refine Lk.r rfl ?_|refine Rf.mk rfl ?_|refine OpK.r rfl ?_|fail)
 (refine Cl.use (h4) (by repeat' (first|exact Lend.nil|apply Lend.keep|fail)) .nil rfl ?_;rintro _ _ ⟨_, rfl, rfl⟩)
 repeat' (first|refine Sp.h ?_|refine Lk.r rfl ?_|refine Rf.mk rfl ?_|refine OpK.r rfl ?_|refine xT ?_|(apply SetAsk.r;focus repeat' constructor)|(apply Fk.r;focus repeat' first|infer_instance|constructor)|refine xN ?_|fail)
 exact ⟨_, _, .one (.same (.z)), _, _, _, L, _, rfl, hL, rfl⟩
theorem cloneBase_p (b : NowS) (r s : AV) (h : SzN b) : CallP Tryz.prog 104 [.agg [ints b.clock, it b.time, ints b.state, mgs b.merged, r, s, ints b.places]] (basA b) := by
 refine CallA.fx (cloneBase_a b r s h) ?_
 rintro q o ⟨v1, v2, v3, L, v4, rfl, hL, rfl⟩
 have := h.c;have := h.s;have := h.m;have := h.p
 have hk : ∀ x ∈ L, x.marks.length ≤ 1000000 := fun x hx => h.k x.g (by rw [← hL];exact List.mem_map_of_mem hx)
 have hLl : L.length ≤ 1000000 := by have := congrArg List.length hL;simp at this;omega
 rw [show basA b = .agg [ints b.clock, it b.time, ints b.state, mgs (L.map MgE.g), nl0, nl0, ints b.places] by rw [hL]]
 refine .agg ?_ .nil
 refine FX.s1 (T := 3) (by repeat constructor) (by omega) (FX.k (FX.s1 (T := 3) (by repeat constructor) (by omega) ?_))
 refine out_fx2 (by repeat constructor) (by repeat constructor) hLl hk (FX.k (FX.k (FX.s1 (T := 3) (by repeat constructor) (by omega) .nil)))
set_option maxHeartbeats 2000000 in
theorem open_a (m : ModS) (b : NowS) (r s : AV) (h : SzN b) :
  CallA Tryz.prog 87 [mdl m, .agg [ints b.clock, it b.time, ints b.state, mgs b.merged, r, s, ints b.places]] [] fun q own => ∃ p v, q = pm p ∧ own = [stoR p m b v b, arrR v 66 13 ([] : List EvS) evC] := by
 have h1 := cloneBase_p b r s h
 have h2 := cloneBase_p b nl0 nl0 h
 refine CallA.own (K := fun q own => ∃ p, q = pm p ∧ own = [blkR p 133 [ints m.sorts, tbls m.tables, .sl 1 m.families strC, .sl 6 m.cons cnsC, .sl 3 m.ops opC, .sl 5 m.acts actC, .sl 3 m.hides updC, ints b.clock, it b.time, ints b.state, mgs b.merged, nl0, nl0, ints b.places, nl0, ints b.clock, it b.time, ints b.state, mgs b.merged, ints b.places]]) ?_ ?_
 ·refine CallA.of pg ord87 Tryz.func87 rfl Tryz.ntmps87 Tryz.results87 rfl fun h0 G0 O0 => ?_
  repeat' (first|refine Sp.h ?_|refine Lk.r rfl ?_|refine Rf.mk rfl ?_|refine All.mk fun _=>?_|refine xT ?_|refine Ch.l ⟨rfl, rfl⟩ ?_|(apply SetAsk.r;focus repeat' constructor)|(apply Fk.r;focus repeat' first|infer_instance|constructor)|refine xN ?_|(apply Cl.p (h1);(focus ((repeat' (first|exact Lend.nil|apply Lend.keep|apply Lend.agg|fail));done)))|(apply Cl.p (h2);(focus ((repeat' (first|exact Lend.nil|apply Lend.keep|apply Lend.agg|fail));done))))
  exact ⟨_, _, .one (.same (.z)), _, rfl, rfl⟩
 ·rintro _ _ ⟨p, rfl, rfl⟩
  refine ⟨[stoR p m b (.slice none 0 0) b, arrR (.slice none 0 0) 66 13 ([] : List EvS) evC], ?_, p, _, rfl, rfl⟩
  refine (OX.nil _ 66 13 evC).trans (OX.recell (.there .here) _ ?_)
  (repeat' (first|exact RLe.nil|(apply RLe.cons;(focus first|exact ALe.refl _|exact ALe.nilow|exact ALe.nil))))
set_option maxHeartbeats 2000000 in
theorem new35_a (m : ModS) (n : Nat) (ld : List Int) (hm : MOK m) (hn : 1 ≤ n ∧ n ≤ 5) (hl : ld.length = strF m) (hs : insS ld) :
  CallA Tryz.prog 35 [mdl m, it n, ints ld] [] fun q own => ∃ p v, q = .tup [pm p, it 0] ∧ own = [stoR p m ⟨List.replicate n 0, 0, ld, List.replicate (mrgF m).length mg0, []⟩ v ⟨List.replicate n 0, 0, ld, List.replicate (mrgF m).length mg0, []⟩, arrR v 66 13 ([] : List EvS) evC] := by
 have h1 := cells35_p m hm.lay
 have h2 := inside35_p ld
 rw [decide_eq_true hs] at h2
 have h3 : CallP Tryz.prog 88 [it n] (ints (List.replicate n 0)) := CallA.fz (T := 3) (by simp;omega) (by have := zero_ok (n : Int) (by omega);rwa [Int.toNat_natCast] at this)
 have h4 := new_p m hm.lay
 have := hm.str;have := hm.mrg
 have h5 := open_a m ⟨List.replicate n 0, 0, ld, List.replicate (mrgF m).length mg0, []⟩ nl0 nl0 ⟨by simp;omega, by simp only;omega, by simp;omega, fun g hg => by rw [(List.mem_replicate.1 hg).2];simp [mg0], by simp⟩
 have h6 : CallA Tryz.prog 87 [mdl m, .agg [ints (List.replicate n 0), it 0, ints ld, mgs (List.replicate (mrgF m).length mg0), nl0, nl0, nl0]] [] fun q own => ∃ p v, q = pm p ∧ own = [stoR p m ⟨List.replicate n 0, 0, ld, List.replicate (mrgF m).length mg0, []⟩ v ⟨List.replicate n 0, 0, ld, List.replicate (mrgF m).length mg0, []⟩, arrR v 66 13 ([] : List EvS) evC] := by
  refine CallA.args (RLe.cons (ALe.refl _) (RLe.cons (ALe.agg ?_) .nil)) h5
  (repeat' (first|exact RLe.nil|(apply RLe.cons;(focus first|exact ALe.refl _|exact ALe.nilow|exact ALe.nil))))
 refine CallA.of pg ord35 Tryz.func35 rfl Tryz.ntmps35 Tryz.results35 rfl fun h0 G0 O0 => ?_
 repeat' (first|refine Sp.h ?_|refine Lk.r rfl ?_|refine Rf.mk rfl ?_|refine xA ?_|refine xB ?_|refine OpK.r rfl ?_|refine Im.mk fun _=>?_|refine All.mk fun _=>?_|refine xT ?_|refine Ch.l ⟨rfl, rfl⟩ ?_|(apply Fk.r;focus repeat' first|infer_instance|constructor)|refine xD ?_|(apply Cl.p (h1);focus (repeat' constructor);done)|(apply Cl.p (h2);focus (repeat' constructor);done)|(apply Cl.p (h3);focus (repeat' constructor);done)|(apply Cl.p (h4);focus (repeat' constructor);done))
 refine xW (h6) ?_
 rintro _ _ ⟨p, v, rfl, rfl⟩
 repeat' (first|refine Sp.h ?_|refine Lk.r rfl ?_|refine OpK.r rfl ?_|refine xN ?_|fail)
 exact ⟨_, _, .tup (.same (.same (.z))), p, v, rfl, rfl⟩
end Go.Proofs.YtmjllbjfkafhdaaGreatDoor
namespace Go.Proofs.YtmjllbjfkafhdaaGreatDoor
open Go Go.CF
set_option maxRecDepth 20000
def laysSort_ren : Go.Shelf.Ren := ⟨fun | 189 => 232 | 125 => 264 | 257 => 263 | 128 => 298 | 129 => 299 | 294 => 290 | 295 => 291 | 296 => 292 | 297 => 293 | 298 => 294 | 299 => 295 | 216 => 212 | 300 => 296 | 301 => 297 | 328 => 306 | 329 => 307 | 330 => 308 | 331 => 309 | 332 => 310 | 215 => 253 | 343 => 316|n => n, fun | 28 => 22 | 3 => 3 | 46 => 266 | 0 => 0 | 51 => 310 | 53 => 313 | 4 => 4 | 183 => 331 | 182 => 330 | 131 => 237 | 5 => 5 | 9 => 9 | 218 => 341 | 222 => 248 | 228 => 350 | 229 => 305|n => n, fun|n => n⟩
theorem laysSort : Go.Proofs.Lays.n189 Tryz.prog laysSort_ren := {
 mixed := by kernel_rfl,
 f125 := Tryz.func264.trans (congrArg some (by kernel_rfl)),
 f128 := Tryz.func298.trans (congrArg some (by kernel_rfl)),
 f129 := Tryz.func299.trans (congrArg some (by kernel_rfl)),
 f189 := Tryz.func232.trans (congrArg some (by kernel_rfl)),
 f215 := Tryz.func253.trans (congrArg some (by kernel_rfl)),
 f216 := Tryz.func212.trans (congrArg some (by kernel_rfl)),
 f257 := Tryz.func263.trans (congrArg some (by kernel_rfl)),
 f294 := Tryz.func290.trans (congrArg some (by kernel_rfl)),
 f295 := Tryz.func291.trans (congrArg some (by kernel_rfl)),
 f296 := Tryz.func292.trans (congrArg some (by kernel_rfl)),
 f297 := Tryz.func293.trans (congrArg some (by kernel_rfl)),
 f298 := Tryz.func294.trans (congrArg some (by kernel_rfl)),
 f299 := Tryz.func295.trans (congrArg some (by kernel_rfl)),
 f300 := Tryz.func296.trans (congrArg some (by kernel_rfl)),
 f301 := Tryz.func297.trans (congrArg some (by kernel_rfl)),
 f328 := Tryz.func306.trans (congrArg some (by kernel_rfl)),
 f329 := Tryz.func307.trans (congrArg some (by kernel_rfl)),
 f330 := Tryz.func308.trans (congrArg some (by kernel_rfl)),
 f331 := Tryz.func309.trans (congrArg some (by kernel_rfl)),
 f332 := Tryz.func310.trans (congrArg some (by kernel_rfl)),
 f343 := Tryz.func316.trans (congrArg some (by kernel_rfl)),
 t0 := Tryz.underlying0,
 a0 := Tryz.isAgg0,
 z0 := Tryz.sizeOf0,
 v0 := Tryz.zeroValue0,
 t3 := Tryz.underlying3,
 a3 := Tryz.isAgg3,
 z3 := Tryz.sizeOf3,
 v3 := Tryz.zeroValue3,
 t4 := Tryz.underlying4,
 a4 := Tryz.isAgg4,
 z4 := Tryz.sizeOf4,
 v4 := Tryz.zeroValue4,
 t5 := Tryz.underlying5,
 a5 := Tryz.isAgg5,
 z5 := Tryz.sizeOf5,
 v5 := Tryz.zeroValue5,
 t9 := Tryz.underlying9,
 a9 := Tryz.isAgg9,
 z9 := Tryz.sizeOf9,
 v9 := Tryz.zeroValue9,
 t28 := Tryz.underlying22,
 a28 := Tryz.isAgg22,
 z28 := Tryz.sizeOf22,
 v28 := Tryz.zeroValue22,
 t46 := Tryz.underlying266,
 a46 := Tryz.isAgg266,
 z46 := Tryz.sizeOf266,
 v46 := Tryz.zeroValue266,
 t51 := Tryz.underlying310,
 a51 := Tryz.isAgg310,
 z51 := Tryz.sizeOf310,
 v51 := Tryz.zeroValue310,
 t53 := Tryz.underlying313,
 a53 := Tryz.isAgg313,
 z53 := Tryz.sizeOf313,
 v53 := Tryz.zeroValue313,
 t131 := Tryz.underlying237,
 a131 := Tryz.isAgg237,
 z131 := Tryz.sizeOf237,
 v131 := Tryz.zeroValue237,
 t182 := Tryz.underlying330,
 a182 := Tryz.isAgg330,
 z182 := Tryz.sizeOf330,
 v182 := Tryz.zeroValue330,
 t183 := Tryz.underlying331,
 a183 := Tryz.isAgg331,
 z183 := Tryz.sizeOf331,
 v183 := Tryz.zeroValue331,
 t218 := Tryz.underlying341,
 a218 := Tryz.isAgg341,
 z218 := Tryz.sizeOf341,
 v218 := Tryz.zeroValue341,
 t222 := Tryz.underlying248,
 a222 := Tryz.isAgg248,
 z222 := Tryz.sizeOf248,
 v222 := Tryz.zeroValue248,
 t228 := Tryz.underlying350,
 a228 := Tryz.isAgg350,
 z228 := Tryz.sizeOf350,
 v228 := Tryz.zeroValue350,
 t229 := Tryz.underlying305,
 a229 := Tryz.isAgg305,
 z229 := Tryz.sizeOf305,
 v229 := Tryz.zeroValue305 }
abbrev i1 : Int → List AV := fun x => [.val (.int .i64 x)]
def srtI (l : List Int) : List Int := l.mergeSort fun x y => decide (x ≤ y)
theorem sortInt_a (v : Value) (T : TypeId) (l : List Int) (hl : l.length ≤ 1000000) : CallA Tryz.prog 232 [.ow v] [arrR v T 1 l i1] fun r own => r = .tup [] ∧ own = [arrR v T 1 (srtI l) i1] :=
 sortI_a laysSort v T l hl
noncomputable def ddN {α : Type} (l : List α) : Nat → List α
 | 0 => []
 | i + 1 => @ite _ (0 < i ∧ l[i]? = l[i - 1]?) (Classical.propDecidable _) (ddN l i) (ddN l i ++ l[i]?.toList)
noncomputable def dd {α : Type} (l : List α) : List α := ddN l l.length
theorem ddN_eq {α : Type} {l : List α} {i : Nat} (h0 : 0 < i) (h : l[i]? = l[i - 1]?) : ddN l (i + 1) = ddN l i := by
 rw [ddN];exact @if_pos _ (Classical.propDecidable _) ⟨h0, h⟩ _ _ _
theorem ddN_ne {α : Type} {l : List α} {i : Nat} {x : α} (hx : l[i]? = some x) (h : 0 < i → l[i]? ≠ l[i - 1]?) : ddN l (i + 1) = ddN l i ++ [x] := by
 rw [ddN, hx]
 exact @if_neg _ (Classical.propDecidable _) (fun e => h e.1 (by rw [hx];exact e.2)) _ _ _
theorem ddN_len {α : Type} {l : List α} : ∀ i, (ddN l i).length ≤ i
 | 0 => Nat.le_refl _
 | i + 1 => by
  have := ddN_len (l := l) i
  rw [ddN]
  cases l[i]? <;> (split <;> simp <;> omega)
theorem ddN_take {α : Type} {l : List α} {i : Nat} (hi : i ≤ l.length) (h : ∀ j, 0 < j → j < i → l[j]? ≠ l[j - 1]?) : ddN l i = l.take i := by
 induction i with
 | zero => rfl
 | succ i ih =>
  have hx := List.getElem?_eq_getElem (show i < l.length by omega)
  rw [ddN_ne hx (fun h0 => h i h0 (by omega)), ih (by omega) (fun j h1 h2 => h j h1 (by omega)), List.take_add_one, hx];rfl
abbrev vI (x : Int) : List Value := [.int .i64 x]
theorem vI_map (l : List Int) : (l.map vI).map valR = l.map i1 := by rw [List.map_map];rfl
set_option maxHeartbeats 1000000 in
theorem compactI_a (w : Value) (l : List Int) (hl : l.length ≤ 1000000) : CallA Tryz.prog 233 [.ow w] [arrR w 3 1 l i1] fun q own => ∃ w', q = .ow w' ∧ own = [arrR w' 3 1 (dd l) i1] := by
 refine CallA.of pg ord233 Tryz.func233 rfl Tryz.ntmps233 Tryz.results233 rfl fun h0 G0 O0 => ?_
 by_cases h2 : l.length < 2
 ·have he : dd l = l := by
   rw [dd, ddN_take (Nat.le_refl _) (fun j h1 h3 => by omega), List.take_length]
  rw [he]
  repeat' (first|refine Sp.h ?_|refine Lk.r rfl ?_|refine Rf.mk rfl ?_|refine xA ?_|refine xU ?_|refine xN ?_|fail)
  exact ⟨_, _, .one (.same (.z)), _, rfl, rfl⟩
 repeat' (first|refine Sp.h ?_|refine Lk.r rfl ?_|refine Rf.mk rfl ?_|refine xB ?_|refine xU ?_|fail)
 refine CA.loop (fun k : Nat => ⟨[(0, .ow w), (3, it k)], [arrR w 3 1 l i1]⟩) (fun k => 1 ≤ k ∧ k ≤ l.length ∧ ∀ j, 0 < j → j < k → l[j]? ≠ l[j - 1]?) (fun k => l.length - k) 1 xE ⟨Nat.le_refl _, by omega, fun j h1 h3 => by omega⟩ ?_
 rintro k ⟨h1, h3, h4⟩
 by_cases hk : k < l.length
 rotate_left
 ·have hke : k = l.length := by omega
  have he : dd l = l := by rw [dd, ← hke, ddN_take h3 h4, hke, List.take_length]
  rw [he]
  repeat' (first|refine Sp.h ?_|refine Lk.r rfl ?_|refine Rf.mk rfl ?_|refine xB ?_|refine xU ?_|refine xN ?_|fail)
  exact ⟨_, _, .one (.same (.z)), _, rfl, rfl⟩
 obtain ⟨x, hx⟩ := get_of hk
 obtain ⟨y, hy⟩ := get_of (l := l) (i := k - 1) (by omega)
 by_cases hxy : x = y
 rotate_left
 ·repeat' (first|refine Sp.h ?_|refine Lk.r rfl ?_|refine Rf.mk rfl ?_|refine xA ?_|refine xB ?_|refine OpK.r rfl ?_|refine xU ?_|refine xI ?_|(apply Ix.r;(focus assumption);(focus omega))|refine xJ ?_|refine xD ?_|refine xO ?_|fail)
  refine PA.lp (k + 1) xE ⟨⟨by omega, hk, fun j g1 g2 => ?_⟩, by omega⟩
  by_cases hj : j = k
  ·subst hj;rw [hx, hy];exact fun e => hxy (by cases e;rfl)
  ·exact h4 j g1 (by omega)
 repeat' (first|refine Sp.h ?_|refine Lk.r rfl ?_|refine Rf.mk rfl ?_|refine xA ?_|refine OpK.r rfl ?_|refine xU ?_|refine xI ?_|(apply Ix.r;(focus assumption);(focus omega))|refine xJ ?_|(apply Jx.r;(focus exact rfl);(focus first|omega|(simp;done)|(simp;omega)))|refine xD ?_|refine xO ?_|fail)
 refine CA.loop (fun q : Nat × Nat × List Int => ⟨[(0, .ow w), (3, it q.1), (4, .os w 1 k (l.length - k)), (5, it q.2.1)], [arrR w 3 1 q.2.2 i1]⟩)
  (fun q => 1 ≤ q.2.1 ∧ q.1 < k + q.2.1 ∧ k + q.2.1 ≤ l.length ∧ q.2.2.length = l.length ∧ q.2.2.take q.1 = ddN l (k + q.2.1) ∧ q.2.2.drop (k + q.2.1 - 1) = l.drop (k + q.2.1 - 1)) (fun q => l.length - q.2.1) (k, 1, l) xE
  ⟨Nat.le_refl _, by simp only;omega, by simp only;omega, rfl, by simp only;rw [ddN_eq (by omega) (by rw [hx, hy, hxy]), ddN_take h3 h4], rfl⟩ ?_
 rintro ⟨i, m, cur⟩ ⟨g1, g2, g3, g4, g5, g6⟩
 simp only at g1 g2 g3 g4 g5 g6
 simp only
 by_cases hm : k + m < l.length
 ·obtain ⟨a, ha⟩ := get_of hm
  obtain ⟨b, hb⟩ := get_of (l := l) (i := k + m - 1) (by omega)
  have hca : cur[k + m]? = some a := by
   have := congrArg (fun z => z[1]?) g6
   simp only [List.getElem?_drop] at this
   rw [show k + m - 1 + 1 = k + m by omega] at this
   rw [this, ha]
  have hcb : cur[k + (m - 1)]? = some b := by
   have := congrArg (fun z => z[0]?) g6
   simp only [List.getElem?_drop, Nat.add_zero] at this
   rw [show k + (m - 1) = k + m - 1 by omega, this, hb]
  have h7 : cur.drop (k + m) = l.drop (k + m) := by
   have := congrArg (List.drop 1) g6
   rw [List.drop_drop, List.drop_drop] at this
   rwa [show k + m - 1 + 1 = k + m by omega] at this
  obtain ⟨z, hz⟩ := get_of (l := cur) (i := i) (by omega)
  have hm1 : ((m : Int) - 1) = ((m - 1 : Nat) : Int) := by omega
  by_cases hab : a = b
  ·repeat' (first|refine Sp.h ?_|refine Lk.r rfl ?_|refine Rf.mk rfl ?_|refine xA ?_|refine OpK.r rfl ?_|refine xU ?_|refine xJ ?_|refine Rf.mk ⟨rfl, rfl⟩ ?_|refine xD ?_|(apply Sx.r;(focus exact rfl);(focus first|omega|(simp;omega)))|refine xO ?_|(apply Sx.r;(focus assumption);(focus first|omega|(simp;omega)))|fail)
   exact PA.lp (i, m + 1, cur) xE ⟨⟨by simp only;omega, by simp only;omega, by simp only;omega, g4, by simp only;rw [← Nat.add_assoc, ddN_eq (by omega) (by rw [ha, hb, hab])];exact g5, by simp only;rw [show k + (m + 1) - 1 = k + m by omega];exact h7⟩, by simp only;omega⟩
  ·repeat' (first|refine Sp.h ?_|refine Lk.r rfl ?_|refine Rf.mk rfl ?_|refine xA ?_|refine xB ?_|refine OpK.r rfl ?_|refine xU ?_|refine xI ?_|refine xJ ?_|refine xV ?_|refine Rf.mk ⟨rfl, rfl⟩ ?_|refine Up.r rfl ?_|refine xD ?_|(apply Sx.r;(focus exact rfl);(focus first|omega|(simp;omega)))|refine xO ?_|(apply Sx.r;(focus assumption);(focus first|omega|(simp;omega)))|fail)
   have h8 : (cur.set i a).take (i + 1) = cur.take i ++ [a] := by
    rw [List.take_add_one, List.getElem?_set, if_pos rfl, if_pos (by omega), List.take_set_of_le (Nat.le_refl _)];rfl
   refine PA.lp (i + 1, m + 1, cur.set i a) xE ⟨⟨by simp only;omega, by simp only;omega, by simp only;omega, by simp only;rw [List.length_set];exact g4, ?_, ?_⟩, by simp only;omega⟩
   ·simp only
    rw [h8, g5, ← Nat.add_assoc, ddN_ne ha (fun _ => by rw [ha, hb];exact fun e => hab (by cases e;rfl))]
   ·simp only
    rw [show k + (m + 1) - 1 = k + m by omega, List.drop_set_of_lt (by omega)];exact h7
 ·have hme : k + m = l.length := by omega
  rw [hme] at g5
  (repeat' (first|(show CA _ _ (Code.region 14 _ _) _ _;apply Stopped.out)|refine Sp.h ?_|refine Lk.r rfl ?_|refine Rf.mk rfl ?_|refine xB ?_|fail));any_goals apply Stopped.mk
  apply CA.retype (m := cur.map vI) (g := valR)
  focus (repeat constructor)
  focus exact vI_map cur
  apply CA.toX 0
  focus rfl
  focus (repeat constructor)
  intro hcap
  rw [List.length_map] at hcap
  (repeat' (first|(show CA _ _ Code.ret _ _;apply Stopped.out)|refine Sp.h ?_|refine Lk.r rfl ?_|refine Rf.mk rfl ?_|refine xP ?_|refine Rf.mk ⟨rfl, rfl⟩ ?_|refine Rf.mk ⟨rfl, rfl, rfl⟩ ?_|(apply Jx.r;(focus exact rfl);(focus first|omega|(simp;done)|(simp;omega)))|(apply TkX.r;(focus repeat constructor))|(apply ExX.short;(focus rfl);(focus first|omega|(simp <;> omega));(focus first|omega|(simp <;> omega)))|fail));any_goals apply Stopped.mk
  apply CA.retype (m := dd l) (g := i1)
  focus (repeat constructor)
  focus (rw [dd, ← g5, ← vI_map, List.map_take];simp [List.take_take])
  repeat' (first|refine Sp.h ?_|refine Lk.r rfl ?_|refine xN ?_|fail)
  exact ⟨_, _, .one (.same (.z)), _, rfl, rfl⟩
end Go.Proofs.YtmjllbjfkafhdaaGreatDoor
namespace Go.Proofs.YtmjllbjfkafhdaaGreatDoor
open Go Go.CF
set_option maxRecDepth 20000
def iniT (t : TblS) : Int := min (max 0 t.lo) t.hi
noncomputable def srtD (l : List Int) : List Int := dd (srtI l)
theorem srtI_len (l : List Int) : (srtI l).length = l.length := by simp [srtI]
theorem srtD_len (l : List Int) : (srtD l).length ≤ l.length := by
 have := ddN_len (l := srtI l) (srtI l).length
 rw [srtI_len] at this
 rw [srtD, dd, srtI_len];exact this
def SI (l s : List Int) : Prop := s.Pairwise (· < ·) ∧ ∀ x, x ∈ s ↔ x ∈ l
theorem SI.uniq {l s t : List Int} (g1 : SI l s) (g2 : SI l t) : s = t := by
 have key : ∀ s t : List Int, s.Pairwise (· < ·) → t.Pairwise (· < ·) → (∀ x, x ∈ s ↔ x ∈ t) → s = t := by
  intro s
  induction s with
  | nil =>
   intro t _ _ h
   cases t with
   | nil => rfl
   | cons b t => exact absurd ((h b).2 (by simp)) (by simp)
  | cons a s ih =>
   intro t hs ht h
   cases t with
   | nil => exact absurd ((h a).1 (by simp)) (by simp)
   | cons b t =>
    obtain ⟨h1, h2⟩ := List.pairwise_cons.1 hs
    obtain ⟨h3, h4⟩ := List.pairwise_cons.1 ht
    have hab : a = b := by
     rcases List.mem_cons.1 ((h a).1 (by simp)) with e|e
     ·exact e
     ·rcases List.mem_cons.1 ((h b).2 (by simp)) with e2|e2
      ·exact e2.symm
      ·have := h1 b e2;have := h3 a e;omega
    subst hab
    rw [ih t h2 h4 fun x => ?_]
    have := h x
    simp only [List.mem_cons] at this
    constructor
    ·intro hx
     rcases this.1 (.inr hx) with e|e
     ·subst e;have := h1 _ hx;omega
     ·exact e
    ·intro hx
     rcases this.2 (.inr hx) with e|e
     ·subst e;have := h3 _ hx;omega
     ·exact e
 exact key _ _ g1.1 g2.1 fun x => (g1.2 x).trans (g2.2 x).symm
theorem srtI_sorted (l : List Int) : (srtI l).Pairwise (· ≤ ·) := by
 have := List.pairwise_mergeSort (le := fun x y : Int => decide (x ≤ y)) (fun a b c h1 h2 => by simp at *;omega) (fun a b => by simp;omega) l
 exact this.imp fun h => by simpa using h
theorem srtD_si (l : List Int) : SI l (srtD l) := by
 have hs := srtI_sorted l
 have hm : ∀ x, x ∈ srtI l ↔ x ∈ l := fun x => List.mem_mergeSort
 suffices key : ∀ i, i ≤ (srtI l).length → (ddN (srtI l) i).Pairwise (· < ·) ∧ (∀ x, x ∈ ddN (srtI l) i ↔ x ∈ (srtI l).take i) by
  obtain ⟨h1, h2⟩ := key _ (Nat.le_refl _)
  rw [List.take_length] at h2
  exact ⟨h1, fun x => (h2 x).trans (hm x)⟩
 intro i
 induction i with
 | zero => intro _;exact ⟨List.Pairwise.nil, fun x => by simp [ddN]⟩
 | succ i ih =>
  intro hi
  obtain ⟨h1, h2⟩ := ih (by omega)
  obtain ⟨x, hx⟩ := get_of (l := srtI l) (i := i) (by omega)
  have ht : (srtI l).take (i + 1) = (srtI l).take i ++ [x] := by rw [List.take_add_one, hx];rfl
  by_cases hc : 0 < i ∧ (srtI l)[i]? = (srtI l)[i - 1]?
  ·rw [ddN_eq hc.1 hc.2, ht]
   refine ⟨h1, fun y => (h2 y).trans ?_⟩
   have hxm : x ∈ (srtI l).take i := List.mem_of_getElem? (i := i - 1) (by rw [List.getElem?_take, if_pos (by omega), ← hc.2, hx])
   simp only [List.mem_append, List.mem_singleton]
   exact ⟨.inl, fun h => h.elim id fun e => e ▸ hxm⟩
  ·rw [ddN_ne hx (fun h0 e => hc ⟨h0, e⟩), ht]
   refine ⟨List.pairwise_append.2 ⟨h1, by simp, fun a ha b hb => ?_⟩, fun y => by simp [h2]⟩
   have hb : b = x := by simpa using hb
   subst hb
   have ha := (h2 a).1 ha
   obtain ⟨j, hj⟩ := List.getElem?_of_mem ha
   have hjl : j < i := by have := (List.getElem?_eq_some_iff.1 hj).1;simp at this;omega
   rw [List.getElem?_take, if_pos hjl] at hj
   have hle : ∀ (p q : Nat) (u v : Int), p ≤ q → (srtI l)[p]? = some u → (srtI l)[q]? = some v → u ≤ v := fun p q u v hpq hu hv => by
    by_cases he : p = q
    ·subst he;rw [hu] at hv;cases hv;omega
    ·obtain ⟨p1, rfl⟩ := List.getElem?_eq_some_iff.1 hu
     obtain ⟨q1, rfl⟩ := List.getElem?_eq_some_iff.1 hv
     exact List.pairwise_iff_getElem.1 hs p q p1 q1 (by omega)
   obtain ⟨z, hz⟩ := get_of (l := srtI l) (i := i - 1) (by omega)
   have h3 := hle j (i - 1) a z (by omega) hj hz
   have h4 := hle (i - 1) i z b (by omega) hz hx
   have h5 : b ≠ z := fun e => hc ⟨by omega, by rw [hx, hz, e]⟩
   omega
noncomputable def valK (t : TblS) (g : MgS) : List Int := if t.kind = 2 ∨ t.kind = 3 then setV t g else if g.marks.length = 0 then [iniT t] else srtD (g.marks.map MkS.val)
set_option maxHeartbeats 1000000 in
theorem valuesR_p (t : TblS) (g : MgS) (hk : ¬ (t.kind = 2 ∨ t.kind = 3)) (hl : g.marks.length ≤ 100000) : CallP Tryz.prog 193 [.agg (tblC t), .agg (mgC g)] (ints (valK t g)) := by
 have h1 : t.kind ≠ 2 := fun h => hk (.inl h)
 have h2 : t.kind ≠ 3 := fun h => hk (.inr h)
 by_cases h0 : g.marks.length = 0
 ·have hv : valK t g = [iniT t] := by rw [valK, if_neg hk, if_pos h0]
  rw [hv]
  refine CallA.fz (T := 3) (by simp) ?_
  refine CallA.of pg ord193 Tryz.func193 rfl Tryz.ntmps193 Tryz.results193 rfl fun h0 G0 O0 => ?_
  (repeat' (first|(show CA _ _ Code.ret _ _;apply Stopped.out)|refine Sp.h ?_|refine Lk.r rfl ?_|refine Rf.mk rfl ?_|refine xA ?_|refine xB ?_|refine Im.mk fun _=>?_|refine All.mk fun _=>?_|refine xT ?_|(apply Fk.r;focus repeat' first|infer_instance|constructor)|refine Rf.mk ⟨rfl, rfl, rfl⟩ ?_|fail));any_goals apply Stopped.mk
  apply CA.retype (m := [iniT t]) (g := i1)
  focus (repeat constructor)
  focus rfl
  repeat' (first|refine Sp.h ?_|refine Lk.r rfl ?_|refine xN ?_|fail)
  exact ⟨_, _, .one (.same (.z)), _, rfl, rfl⟩
 ·have hv : valK t g = srtD (g.marks.map MkS.val) := by rw [valK, if_neg hk, if_neg h0]
  have hln := srtD_len (g.marks.map MkS.val)
  rw [List.length_map] at hln
  rw [hv]
  refine CallA.fz (T := 3) (by omega) ?_
  refine CallA.of pg ord193 Tryz.func193 rfl Tryz.ntmps193 Tryz.results193 rfl fun h0 G0 O0 => ?_
  repeat' (first|refine Sp.h ?_|refine Lk.r rfl ?_|refine Rf.mk rfl ?_|refine xB ?_|refine Im.mk fun _=>?_|refine All.mk fun _=>?_|refine xT ?_|fail)
  refine CA.nilOwn 5 3 1 i1 rfl fun v => ?_
  refine CA.loop (fun x : Nat × Value => ⟨[(5, .ow x.2), (54, mks g.marks), (55, it (g.marks.length : Nat)), (56, it x.1)], [arrR x.2 3 1 ((g.marks.take x.1).map MkS.val) i1]⟩) (fun x => x.1 ≤ g.marks.length) (fun x => g.marks.length - x.1) (0, v) xE (Nat.zero_le _) ?_
  rintro ⟨i, w⟩ hi
  simp only at hi
  simp only
  by_cases hin : i < g.marks.length
  ·obtain ⟨x, hx⟩ := get_of hin
   have hsu : (g.marks.take (i + 1)).map MkS.val = (g.marks.take i).map MkS.val ++ [x.val] := by rw [List.take_add_one, hx];simp
   repeat' (first|refine Sp.h ?_|refine Lk.r rfl ?_|refine Rf.mk rfl ?_|refine xA ?_|refine xP ?_|refine All.mk fun _=>?_|refine xU ?_|refine xT ?_|refine xI ?_|refine Ce.r ?_|refine Ch.l ⟨rfl, rfl⟩ ?_|(apply SetAsk.r;focus repeat' constructor)|(apply Fk.r;focus repeat' first|infer_instance|constructor)|refine xN ?_|refine Rf.mk ⟨rfl, rfl⟩ ?_|refine Rf.mk ⟨rfl, rfl, rfl⟩ ?_|(apply Mp.lit;(focus repeat (first|exact MpL.nil|(apply MpL.cons;(focus rfl))|(apply MpL.inv;(focus repeat constructor);(focus infer_instance)))))|refine xO ?_|fail)
   rw [← hsu]
   exact PA.lp (i + 1, _) xE ⟨hin, by simp only;omega⟩
  ·have hie : i = g.marks.length := by omega
   subst hie
   rw [List.take_length]
   have hso := sortInt_a w 3 (g.marks.map MkS.val) (by simp;omega)
   have hco := compactI_a w (srtI (g.marks.map MkS.val)) (by rw [srtI_len];simp;omega)
   repeat' (first|refine Sp.h ?_|refine Lk.r rfl ?_|refine Rf.mk rfl ?_|refine xB ?_|fail)
   refine xW (hso) ?_
   rintro _ _ ⟨rfl, rfl⟩
   repeat' (first|refine Sp.h ?_|refine Lk.r rfl ?_|refine Rf.mk rfl ?_|fail)
   refine xW (hco) ?_
   rintro _ _ ⟨w2, rfl, rfl⟩
   repeat' (first|refine Sp.h ?_|refine Lk.r rfl ?_|refine xN ?_|fail)
   exact ⟨_, _, .one (.same (.z)), _, rfl, rfl⟩
theorem values_p (t : TblS) (g : MgS) (hl : g.marks.length ≤ 100000) : CallP Tryz.prog 193 [.agg (tblC t), .agg (mgC g)] (ints (valK t g)) := by
 by_cases h : t.kind = 2 ∨ t.kind = 3
 ·rw [valK, if_pos h];exact valuesS_p t g h
 ·exact valuesR_p t g h hl
end Go.Proofs.YtmjllbjfkafhdaaGreatDoor
namespace Go.Proofs.YtmjllbjfkafhdaaGreatDoor
open Go Go.CF
set_option maxRecDepth 20000
theorem si_keep {l s : List Int} {x : Int} (h : SI l s) (hx : x ∈ s) : SI (l ++ [x]) s :=
 ⟨h.1, fun y => by
  rw [List.mem_append, List.mem_singleton, h.2]
  exact ⟨.inl, fun e => e.elim id fun e => e ▸ (h.2 x).1 hx⟩⟩
end Go.Proofs.YtmjllbjfkafhdaaGreatDoor
namespace Go.Proofs.YtmjllbjfkafhdaaGreatDoor
open Go Go.CF
set_option maxRecDepth 20000
noncomputable def valsF (ts : List TblS) (l : List MgS) : List (List Int) := (ts.zip l).map fun p => valK p.1 p.2
theorem valsF_succ {ts : List TblS} {l : List MgS} {i : Nat} {t : TblS} {g : MgS} (ht : ts[i]? = some t) (hg : l[i]? = some g) : valsF (ts.take (i + 1)) (l.take (i + 1)) = valsF (ts.take i) (l.take i) ++ [valK t g] := by
 have h1 := (List.getElem?_eq_some_iff.1 ht).1
 have h2 := (List.getElem?_eq_some_iff.1 hg).1
 rw [List.take_add_one, List.take_add_one, ht, hg, valsF, Option.toList_some, Option.toList_some, List.zip_append (by simp;omega), List.map_append]
 rfl
theorem valsF_len (ts : List TblS) (l : List MgS) : (valsF ts l).length = min ts.length l.length := by simp [valsF]
theorem valL_len {ts : List TblS} {l : List MgS} (hv : ValL ts l) {i : Nat} {t : TblS} {g : MgS} (ht : ts[i]? = some t) (hg : l[i]? = some g) : g.marks.length ≤ 1024 := (hv.2 i t g ht hg).1.2.2.2
theorem valuesM_p (m : ModS) (l : List MgS) (hm : LayOK m.sorts m.tables) (hv : ValL (mrgF m) l) (hl : (mrgF m).length ≤ 1000) :
  CallP Tryz.prog 136 [mdl m, mgs l] (.tup [clks (valsF (mrgF m) l), it 0]) := by
 refine CallA.fzt (T := 22) (by rw [valsF_len];omega) ?_
 have hva := validM_p m l hm
 have hce := cells_p m hm
 have hlen := hv.1
 refine CallA.of pg ord136 Tryz.func136 rfl Tryz.ntmps136 Tryz.results136 rfl fun h0 G0 O0 => ?_
 repeat' (first|refine Sp.h ?_|refine Lk.r rfl ?_|refine Rf.mk rfl ?_|refine xA ?_|refine Im.mk fun _=>?_|refine All.mk fun _=>?_|refine xT ?_|refine Ch.l ⟨rfl, rfl⟩ ?_|(apply Cl.p (hva);focus repeat' constructor)|(apply Cl.p (hce);focus repeat' constructor))
 refine CA.nilOwn 6 22 1 clkC rfl fun v => ?_
 refine CA.loop (fun x : Nat × Value => ⟨[(1, mgs l), (6, .ow x.2), (14, tbls (mrgF m)), (15, it ((mrgF m).length : Nat)), (16, it x.1)], [arrR x.2 22 1 (valsF ((mrgF m).take x.1) (l.take x.1)) clkC]⟩) (fun x => x.1 ≤ (mrgF m).length) (fun x => (mrgF m).length - x.1) (0, v) xE (Nat.zero_le _) ?_
 rintro ⟨i, w⟩ hi
 simp only at hi
 simp only
 by_cases hin : i < (mrgF m).length
 ·obtain ⟨t, ht⟩ := get_of hin
  obtain ⟨g, hg⟩ := get_of (l := l) (i := i) (by omega)
  have hsu := valsF_succ ht hg
  have hva := values_p t g (by have := valL_len hv ht hg;omega)
  have hln : (valsF ((mrgF m).take i) (l.take i)).length ≤ 1000 := by rw [valsF_len];simp;omega
  repeat' (first|refine Sp.h ?_|refine Lk.r rfl ?_|refine Rf.mk rfl ?_|refine xA ?_|refine OpK.r rfl ?_|refine xP ?_|refine All.mk fun _=>?_|refine xU ?_|refine xT ?_|refine xI ?_|refine Ce.r ?_|refine Ch.l ⟨rfl, rfl⟩ ?_|(apply SetAsk.r;focus repeat' constructor)|(apply Fk.r;focus repeat' first|infer_instance|constructor)|refine xN ?_|refine Rf.mk ⟨rfl, rfl⟩ ?_|refine Rf.mk ⟨rfl, rfl, rfl⟩ ?_|(apply Mp.lit;(focus repeat (first|exact MpL.nil|(apply MpL.cons;(focus rfl))|(apply MpL.inv;(focus repeat constructor);(focus infer_instance)))))|refine xD ?_|refine xO ?_|(apply Cl.p (hva);focus repeat' constructor))
  rw [← hsu]
  exact PA.lp (i + 1, _) xE ⟨hin, by simp only;omega⟩
 ·have hie : i = (mrgF m).length := by omega
  subst hie
  rw [List.take_length, List.take_of_length_le (l := l) (by omega)]
  repeat' (first|refine Sp.h ?_|refine Lk.r rfl ?_|refine Rf.mk rfl ?_|refine xB ?_|refine xN ?_|fail)
  exact ⟨_, _, .tup (.same (.same (.z))), _, rfl, rfl⟩
end Go.Proofs.YtmjllbjfkafhdaaGreatDoor
namespace Go.Proofs.YtmjllbjfkafhdaaGreatDoor
open Go Go.CF
set_option maxRecDepth 20000
noncomputable def valuesQ (m : ModS) (l : List MgS) : Int × List (List Int) := @ite _ (ValL (mrgF m) l) (Classical.propDecidable _) (0, valsF (mrgF m) l) (1, [])
theorem valuesQ_ok {m : ModS} {l : List MgS} (h : ValL (mrgF m) l) : valuesQ m l = (0, valsF (mrgF m) l) := @if_pos _ (Classical.propDecidable _) h _ _ _
theorem valuesQ_bad {m : ModS} {l : List MgS} (h : ¬ ValL (mrgF m) l) : valuesQ m l = (1, []) := @if_neg _ (Classical.propDecidable _) h _ _ _
abbrev resV (q : Int × List (List Int)) : AV := .tup [clks q.2, it q.1]
theorem valuesQ_p (m : ModS) (l : List MgS) (hm : MOK m) : CallP Tryz.prog 136 [mdl m, mgs l] (resV (valuesQ m l)) := by
 by_cases hv : ValL (mrgF m) l
 ·rw [valuesQ_ok hv];exact valuesM_p m l hm.lay hv (by have := hm.mrg;omega)
 ·have hva := validM_p m l hm.lay
  rw [valuesQ_bad hv]
  refine CallA.conv (a := .tup [.val (.slice none 0 0), it 1]) (.tup (.cons ALe.nil (.cons (ALe.refl _) .nil))) ?_
  refine CallA.of pg ord136 Tryz.func136 rfl Tryz.ntmps136 Tryz.results136 rfl fun h0 G0 O0 => ?_
  repeat' (first|refine Sp.h ?_|refine Lk.r rfl ?_|refine Rf.mk rfl ?_|refine xB ?_|refine All.mk fun _=>?_|refine xT ?_|refine Ch.l ⟨rfl, rfl⟩ ?_|refine xN ?_|(apply Cl.p (hva);focus repeat' constructor))
  exact Fin.p rfl rfl
end Go.Proofs.YtmjllbjfkafhdaaGreatDoor
namespace Go.Proofs.YtmjllbjfkafhdaaGreatDoor
open Go Go.CF
set_option maxRecDepth 20000
theorem fold_len {op : Int → Int → Int} {l : List (List Int)} (h : AlikeC l) : (foldC op l).length = (l[0]?.getD []).length := by
 obtain ⟨d, r, rfl⟩ := alike_cons h
 have := foldN_len (op := op) (d := d) (r := r) (fun c hc => (h.2 c (by simp [hc])).2) r.length
 rw [foldN, List.take_length] at this
 exact this
end Go.Proofs.YtmjllbjfkafhdaaGreatDoor
namespace Go.Proofs.YtmjllbjfkafhdaaGreatDoor
open Go Go.CF
set_option maxRecDepth 20000
section
variable (s : Nat) (m : ModS) (b : NowS) (v : Value) (w : NowS)
abbrev stoV (m : ModS) (b : NowS) (l : List EvS) (w : NowS) : List AV := [ints m.sorts, tbls m.tables, .sl 1 m.families strC, .sl 6 m.cons cnsC, .sl 3 m.ops opC, .sl 5 m.acts actC, .sl 3 m.hides updC, ints b.clock, it b.time, ints b.state, mgs b.merged, nl0, nl0, ints b.places, evs l, ints w.clock, it w.time, ints w.state, mgs w.merged, ints w.places]
theorem sevents_r (l : List EvS) (hl : l.length ≤ 1000000) (hm : ∀ e ∈ l, e.past.length ≤ 1000000) : CallA Tryz.prog 64 [.ad (stoV m b l w) 0] [] fun r own => ∃ u L, r = .ow u ∧ L.map EvE.e = l ∧ own = outE u L := by
 have h := cloneEs_a l hl hm
 refine CallA.of pg ord64 Tryz.func64 rfl Tryz.ntmps64 Tryz.results64 rfl fun h0 G0 O0 => ?_
 repeat' (first|refine Sp.h ?_|refine Lk.r rfl ?_|refine Rf.mk rfl ?_|fail)
 refine xW (h) ?_
 rintro _ _ ⟨u, L, rfl, hL, rfl⟩
 repeat' (first|refine Sp.h ?_|refine Lk.r rfl ?_|refine xN ?_|fail)
 exact ⟨_, _, .one (.same (.z)), u, L, rfl, hL, rfl⟩
theorem sclock_r (l : List EvS) (h : w.clock.length ≤ 100000) : CallO Tryz.prog 28 [.ad (stoV m b l w) 0] 3 1 w.clock intC := by
 have h1 := clone_o w.clock (by omega)
 refine CallA.of pg ord28 Tryz.func28 rfl Tryz.ntmps28 Tryz.results28 rfl fun h0 G0 O0 => ?_
 repeat' (first|refine Sp.h ?_|refine Lk.r rfl ?_|refine Rf.mk rfl ?_|fail)
 (refine Cl.use (h1) (by repeat' (first|exact Lend.nil|apply Lend.keep|fail)) .nil rfl ?_;rintro _ _ ⟨_, rfl, rfl⟩)
 repeat' (first|refine Sp.h ?_|refine Lk.r rfl ?_|refine xN ?_|fail)
 exact ⟨_, _, .one (.same (.z)), _, rfl, rfl⟩
theorem sevents_z (l : List EvS) (hl : l.length ≤ 1000000) (hm : ∀ e ∈ l, e.past.length ≤ 1000000) : CallP Tryz.prog 64 [.ad (stoV m b l w) 0] (evs l) := by
 refine CallA.fx (sevents_r m b w l hl hm) ?_
 rintro _ _ ⟨u, L, rfl, hL, rfl⟩
 have h := outE_fx (v := u) (L := L) (o := []) (by have := congrArg List.length hL;simp at this;omega) (fun x hx => hm x.e (by rw [← hL];exact List.mem_map_of_mem hx)) .nil
 rw [hL] at h
 simpa using h
theorem sclock_z (l : List EvS) (h : w.clock.length ≤ 100000) : CallP Tryz.prog 28 [.ad (stoV m b l w) 0] (ints w.clock) := CallA.fz (by omega) (sclock_r m b w l h)
theorem sbase_r (l : List EvS) (h : SzN b) : CallP Tryz.prog 63 [.ad (stoV m b l w) 0] (basA b) := by
 have h1 := cloneBase_p b nl0 nl0 h
 refine CallA.of pg ord63 Tryz.func63 rfl Tryz.ntmps63 Tryz.results63 rfl fun h0 G0 O0 => ?_
 repeat' (first|refine Sp.h ?_|refine Lk.r rfl ?_|refine Rf.mk rfl ?_|refine All.mk fun _=>?_|refine xT ?_|refine Ch.r ?_|(apply SetAsk.r;focus repeat' constructor)|refine xN ?_|(apply Cl.p (h1);focus repeat' constructor))
 exact Fin.p rfl rfl
end
theorem flat_ints {u : Value} {l : List Int} : FlatR (arrR u 3 1 l intC) := FlatR.arr fun _ _ => .cons (.val _) .nil
end Go.Proofs.YtmjllbjfkafhdaaGreatDoor
namespace Go.Proofs.YtmjllbjfkafhdaaGreatDoor
open Go Go.CF
set_option maxRecDepth 20000
theorem LtK_asymm (a b : MkS) : LtK a b → ¬ LtK b a := by unfold LtK;omega
end Go.Proofs.YtmjllbjfkafhdaaGreatDoor
namespace Go.Proofs.YtmjllbjfkafhdaaGreatDoor
open Go Go.CF
set_option maxRecDepth 20000
def updE (m : ModS) (e : EvS) (i : Nat) : Option UpS := if e.kind = 0 then updF (usF m e) i else none
noncomputable def mkE (t : TblS) (e : EvS) (u : UpS) : MkS := ⟨e.rep, e.num, e.time, if isReg t.kind then u.2.2 else 0⟩
def bK (k : Int) : Int := if k = 2 then 0 else if k = 3 then 1 else 2
def kK (k : Int) : Int := if k = 2 then 1 else if k = 3 then 0 else 2
def Asg (m : ModS) (t : TblS) (i : Nat) (P : List EvS) (x : MkS) : Prop := ∃ e ∈ P, ∃ u, updE m e i = some u ∧ u.1 = bK t.kind ∧ x = mkE t e u
def Liv (m : ModS) (t : TblS) (i : Nat) (P : List EvS) (x : MkS) : Prop := ∃ e ∈ P, ∃ u, updE m e i = some u ∧ u.1 = bK t.kind ∧ x = mkE t e u ∧ ∀ d ∈ P, ∀ w, updE m d i = some w → w.1 = kK t.kind → ¬ HasC d.past e.rep e.num
def PutP (m : ModS) (t : TblS) (i : Nat) (P : List EvS) : Prop := t.kind = 3 ∧ ∃ e ∈ P, ∃ u, updE m e i = some u ∧ u.1 = 0
def Kn4 (m : ModS) (t : TblS) (i : Nat) (P : List EvS) (l : List MkS) : Prop := (l = [] ∧ ∀ x, ¬ Asg m t i P x) ∨ ∃ x, l = [x] ∧ Asg m t i P x ∧ ∀ y, Asg m t i P y → ¬ LtK x y
structure Kn (m : ModS) (t : TblS) (i : Nat) (P : List EvS) (g : MgS) : Prop where
 put : g.put = true ↔ PutP m t i P
 drop : g.drop = false
 srt : g.marks.Pairwise LtK
 four : t.kind = 4 → Kn4 m t i P g.marks
 liv : t.kind ≠ 4 → ∀ x, x ∈ g.marks ↔ Liv m t i P x
def UniqP (P : List EvS) : Prop := ∀ a ∈ P, ∀ b ∈ P, a.rep = b.rep → a.num = b.num → a = b
theorem asg_nm {m : ModS} {t : TblS} {i : Nat} {P : List EvS} (hu : UniqP P) {x y : MkS} (hx : Asg m t i P x) (hy : Asg m t i P y) (hn : Nm x y) : x = y := by
 obtain ⟨e, he, u, h1, _, rfl⟩ := hx
 obtain ⟨d, hd, w, h3, _, rfl⟩ := hy
 have := hu e he d hd hn.1 hn.2
 subst this
 rw [h1] at h3;cases h3;rfl
theorem liv_asg {m : ModS} {t : TblS} {i : Nat} {P : List EvS} {x : MkS} (h : Liv m t i P x) : Asg m t i P x := by
 obtain ⟨e, he, u, h1, h2, h3, _⟩ := h
 exact ⟨e, he, u, h1, h2, h3⟩
theorem Kn.mem {m : ModS} {t : TblS} {i : Nat} {P : List EvS} {g : MgS} (h : Kn m t i P g) {x : MkS} (hx : x ∈ g.marks) : Asg m t i P x := by
 by_cases k4 : t.kind = 4
 ·rcases h.four k4 with ⟨h1, _⟩|⟨y, h1, h2, _⟩
  ·rw [h1] at hx;cases hx
  ·rw [h1, List.mem_singleton] at hx;subst hx;exact h2
 ·exact liv_asg ((h.liv k4 x).1 hx)
structure Nxt (P : List EvS) (e : EvS) : Prop where
 nm : ∀ p ∈ P, ¬ (p.rep = e.rep ∧ p.num = e.num)
 past : ∀ p ∈ P, ¬ HasC p.past e.rep e.num
 tm : ∀ p ∈ P, ¬ (p.time = e.time ∧ p.rep = e.rep)
 self : ¬ HasC e.past e.rep e.num
theorem asg_snoc {m : ModS} {t : TblS} {i : Nat} {P : List EvS} {e : EvS} {x : MkS} : Asg m t i (P ++ [e]) x ↔ Asg m t i P x ∨ ∃ u, updE m e i = some u ∧ u.1 = bK t.kind ∧ x = mkE t e u := by
 unfold Asg
 simp only [List.mem_append, List.mem_singleton]
 constructor
 ·rintro ⟨d, hd|rfl, h⟩
  ·exact .inl ⟨d, hd, h⟩
  ·exact .inr h
 ·rintro (⟨d, hd, h⟩|h)
  ·exact ⟨d, .inl hd, h⟩
  ·exact ⟨e, .inr rfl, h⟩
theorem putP_snoc {m : ModS} {t : TblS} {i : Nat} {P : List EvS} {e : EvS} : PutP m t i (P ++ [e]) ↔ PutP m t i P ∨ t.kind = 3 ∧ ∃ u, updE m e i = some u ∧ u.1 = 0 := by
 unfold PutP
 simp only [List.mem_append, List.mem_singleton]
 constructor
 ·rintro ⟨hk, d, hd|rfl, h⟩
  ·exact .inl ⟨hk, d, hd, h⟩
  ·exact .inr ⟨hk, h⟩
 ·rintro (⟨hk, d, hd, h⟩|⟨hk, h⟩)
  ·exact ⟨hk, d, .inl hd, h⟩
  ·exact ⟨hk, e, .inr rfl, h⟩
theorem liv_snoc {m : ModS} {t : TblS} {i : Nat} {P : List EvS} {e : EvS} (hn : Nxt P e) {x : MkS} :
  Liv m t i (P ++ [e]) x ↔ (Liv m t i P x ∧ ∀ u, updE m e i = some u → u.1 = kK t.kind → ¬ HasC e.past x.rep x.num) ∨ ∃ u, updE m e i = some u ∧ u.1 = bK t.kind ∧ x = mkE t e u := by
 constructor
 ·rintro ⟨d, hd, u, h1, h2, h3, h4⟩
  rcases List.mem_append.1 hd with hd|hd
  ·refine .inl ⟨⟨d, hd, u, h1, h2, h3, fun d' hd' => h4 d' (List.mem_append.2 (.inl hd'))⟩, fun w hw hk => ?_⟩
   rw [h3];exact h4 e (by simp) w hw hk
  ·rw [List.mem_singleton.1 hd] at h1 h3
   exact .inr ⟨u, h1, h2, h3⟩
 ·rintro (⟨⟨d, hd, u, h1, h2, h3, h4⟩, h5⟩|⟨u, h1, h2, h3⟩)
  ·refine ⟨d, List.mem_append.2 (.inl hd), u, h1, h2, h3, fun d' hd' w hw hk => ?_⟩
   rcases List.mem_append.1 hd' with hd' | hd'
   ·exact h4 d' hd' w hw hk
   ·rw [List.mem_singleton.1 hd'] at hw ⊢
    have := h5 w hw hk
    rw [h3] at this;exact this
  ·refine ⟨e, by simp, u, h1, h2, h3, fun d' hd' w hw hk => ?_⟩
   rcases List.mem_append.1 hd' with hd' | hd'
   ·exact hn.past d' hd'
   ·rw [List.mem_singleton.1 hd'];exact hn.self
theorem ins_lt {l : List MkS} {x : MkS} (hs : l.Pairwise LtK) (hn : ¬ HasNm l x) : (insK l x).Pairwise LtK ∧ ∀ y, y ∈ insK l x ↔ y ∈ l ∨ y = x := by
 have hsK : SrtK l := hs.imp fun h => LtK_asymm _ _ h
 have hm := hsK.mono x
 have hlt : ∀ y ∈ l, LtK x y ∨ LtK y x := fun y hy => by
  have h : ¬ Nm y x := fun h => hn ⟨y, hy, h⟩
  unfold Nm at h;unfold LtK;omega
 have h1 : ∀ y ∈ l.take (posK l x), LtK y x := fun y hy => by
  obtain ⟨j, hj⟩ := List.getElem?_of_mem hy
  have hjl : j < posK l x := by have := (List.getElem?_eq_some_iff.1 hj).1;simp at this;omega
  rw [List.getElem?_take, if_pos hjl] at hj
  by_cases h9 : LtK y x
  ·exact h9
  ·have : idxN (fun y => decide (¬ LtK y x)) l ≤ j := by
    rcases Nat.lt_or_ge j (idxN (fun y => decide (¬ LtK y x)) l) with hlt9|h
    ·exfalso
     have hle := idxN_le (fun y => decide (¬ LtK y x)) l
     by_cases hlen : idxN (fun y => decide (¬ LtK y x)) l < l.length
     ·obtain ⟨z, _, _, hz3⟩ := idxN_at hlen
      have := hz3 j y hlt9 hj
      simp at this;exact h9 this
     ·have hnone : ∀ z ∈ l, LtK z x := fun z hz => Classical.byContradiction fun h => hlen (idxN_lt.2 ⟨z, hz, by simpa using h⟩)
      exact h9 (hnone y (List.mem_of_getElem? hj))
    ·exact h
   unfold posK at hjl;omega
 have h2 : ∀ y ∈ l.drop (posK l x), LtK x y := fun y hy => by
  obtain ⟨j, hj⟩ := List.getElem?_of_mem hy
  rw [List.getElem?_drop] at hj
  have hym := List.mem_of_getElem? hj
  refine (hlt y hym).resolve_right fun h9 => ?_
  have hp : posK l x < l.length := by have := (List.getElem?_eq_some_iff.1 hj).1;omega
  obtain ⟨z, hz, hz2, _⟩ := idxN_at (p := fun y => decide (¬ LtK y x)) (l := l) hp
  have hz2 : ¬ LtK z x := by simpa using hz2
  exact hz2 (hm _ _ z y (Nat.le_add_right (posK l x) j) hz hj h9)
 have htd := List.take_append_drop (posK l x) l
 have hs' := hs
 rw [← htd] at hs'
 obtain ⟨s1, s2, s3⟩ := List.pairwise_append.1 hs'
 refine ⟨List.pairwise_append.2 ⟨s1, List.pairwise_cons.2 ⟨h2, s2⟩, fun a ha b hb => ?_⟩, fun y => ?_⟩
 ·rcases List.mem_cons.1 hb with rfl|hb
  ·exact h1 a ha
  ·exact s3 a ha b hb
 ·rw [insK, List.mem_append, List.mem_cons]
  constructor
  ·rintro (h|rfl|h)
   ·exact .inl (List.mem_of_mem_take h)
   ·exact .inr rfl
   ·exact .inl (List.mem_of_mem_drop h)
  ·rintro (h|rfl)
   ·rw [← htd, List.mem_append] at h
    exact h.elim .inl fun h => .inr (.inr h)
   ·exact .inr (.inl rfl)
end Go.Proofs.YtmjllbjfkafhdaaGreatDoor
namespace Go.Proofs.YtmjllbjfkafhdaaGreatDoor
open Go Go.CF
set_option maxRecDepth 20000
theorem cmp2_neg {a b : MkS} : cmp2 a b < 0 ↔ a.time < b.time ∨ a.time = b.time ∧ a.rep < b.rep := by
 unfold cmp2 orI cmpI
 by_cases h1 : a.time < b.time
 ·simp [h1]
 by_cases h2 : b.time < a.time
 ·simp [h1, h2];omega
 have h3 : a.time = b.time := by omega
 by_cases h4 : a.rep < b.rep
 ·simp [h3, h4]
 by_cases h5 : b.rep < a.rep
 ·simp [h3, h4, h5]
 have h6 : a.rep = b.rep := by omega
 simp [h3, h6]
def Kd (t : TblS) : Prop := t.kind = 2 ∨ t.kind = 3 ∨ t.kind = 4 ∨ t.kind = 5
theorem cell_step {m : ModS} {t : TblS} {i : Nat} {P : List EvS} {g : MgS} {e : EvS} (hk : Kd t) (h : Kn m t i P g) (hl : g.marks.length < 1024) (hn : Nxt P e) :
  ∃ g', cellF e t (updE m e i) g = (0, g') ∧ Kn m t i (P ++ [e]) g' ∧ g'.marks.length ≤ g.marks.length + 1 := by
 cases hu : updE m e i with
 | none =>
  refine ⟨g, rfl, ⟨?_, h.drop, h.srt, fun k4 => ?_, fun k4 x => ?_⟩, by omega⟩
  ·rw [putP_snoc, hu];simp [h.put]
  ·have he : ∀ x, Asg m t i (P ++ [e]) x ↔ Asg m t i P x := fun x => by rw [asg_snoc, hu];simp
   rcases h.four k4 with ⟨h1, h2⟩|⟨x, h1, h2, h3⟩
   ·exact .inl ⟨h1, fun x hx => h2 x ((he x).1 hx)⟩
   ·exact .inr ⟨x, h1, (he x).2 h2, fun y hy => h3 y ((he y).1 hy)⟩
  ·rw [liv_snoc hn, hu];simp [h.liv k4]
 | some u =>
  have hno : ¬ HasNm g.marks (mkE t e u) := fun ⟨x, hx, hxn⟩ => by
   obtain ⟨p, hp, w, _, _, rfl⟩ := h.mem hx
   exact hn.nm p hp hxn
  have hadd : addF g.marks (mkE t e u) = (0, insK g.marks (mkE t e u)) := by rw [addF, if_neg hno, if_neg (by omega)]
  have hil : ∀ (l : List MkS) x, (insK l x).length = l.length + 1 := fun l x => by
   have := posK_le l x
   simp [insK];omega
  obtain ⟨i1, i2⟩ := ins_lt h.srt hno
  have hfl : ∀ c, (fgK c g.marks).length ≤ g.marks.length := fun c => List.length_filter_le _ _
  have hfm : ∀ c x, x ∈ fgK c g.marks ↔ x ∈ g.marks ∧ ¬ HasC c x.rep x.num := fun c x => by simp [fgK, List.mem_filter]
  have hput : t.kind ≠ 3 → g.put = false := fun h3 => by
   have := h.put
   cases hp : g.put
   ·rfl
   ·exact absurd (this.1 hp).1 h3
  have hmk : mkE t e u = ⟨e.rep, e.num, e.time, if isReg t.kind then u.2.2 else 0⟩ := rfl
  have hlv : ∀ x, Liv m t i (P ++ [e]) x ↔ (Liv m t i P x ∧ (u.1 = kK t.kind → ¬ HasC e.past x.rep x.num)) ∨ (u.1 = bK t.kind ∧ x = mkE t e u) := fun x => by
   rw [liv_snoc hn, hu];simp
  have hpt : PutP m t i (P ++ [e]) ↔ PutP m t i P ∨ t.kind = 3 ∧ u.1 = 0 := by rw [putP_snoc, hu];simp
  have hsame : cellF e t (some u) g = (0, g) → (t.kind ≠ 4 → u.1 ≠ bK t.kind ∧ u.1 ≠ kK t.kind) → (t.kind = 4 → u.1 ≠ 2) → (t.kind = 3 → u.1 ≠ 0) → ∃ g', cellF e t (some u) g = (0, g') ∧ Kn m t i (P ++ [e]) g' ∧ g'.marks.length ≤ g.marks.length + 1 := fun h1 h2 h3 h4 => by
   refine ⟨g, h1, ⟨?_, h.drop, h.srt, fun k4 => ?_, fun k4 x => ?_⟩, by omega⟩
   ·rw [hpt, h.put];exact ⟨.inl, fun h => h.elim id fun h => absurd h.2 (h4 h.1)⟩
   ·have hb : bK t.kind = 2 := by rw [k4];rfl
    have he : ∀ x, Asg m t i (P ++ [e]) x ↔ Asg m t i P x := fun x => by
     rw [asg_snoc, hu]
     refine ⟨fun h => h.elim id fun ⟨w, hw, hw2, _⟩ => ?_, .inl⟩
     cases hw
     exact absurd (hw2.trans hb) (h3 k4)
    rcases h.four k4 with ⟨h1, h2⟩|⟨x, h1, h2, h3⟩
    ·exact .inl ⟨h1, fun x hx => h2 x ((he x).1 hx)⟩
    ·exact .inr ⟨x, h1, (he x).2 h2, fun y hy => h3 y ((he y).1 hy)⟩
   ·rw [hlv, h.liv k4]
    exact ⟨fun h9 => .inl ⟨h9, fun h => absurd h (h2 k4).2⟩, fun h9 => h9.elim (·.1) fun h => absurd h.1 (h2 k4).1⟩
  rcases hk with k|k|k|k
  ·have nb : bK t.kind = 0 := by rw [k];rfl
   have nk : kK t.kind = 1 := by rw [k];rfl
   by_cases u0 : u.1 = 0
   ·refine ⟨⟨g.put, g.drop, insK g.marks (mkE t e u)⟩, ?_, ⟨?_, h.drop, i1, fun k4 => by omega, fun _ x => ?_⟩, by simp [hil]⟩
    ·simp only [cellF, k, u0, true_and, true_or, if_true]
     rw [← k, ← hmk, hadd]
    ·rw [hpt, h.put];exact ⟨.inl, fun h => h.elim id fun h => by omega⟩
    ·rw [hlv]
     show x ∈ insK g.marks (mkE t e u) ↔ _
     rw [i2, h.liv (by omega)]
     exact ⟨fun h9 => h9.elim (fun h9 => .inl ⟨h9, fun h => by omega⟩) fun h9 => .inr ⟨by omega, h9⟩, fun h9 => h9.elim (fun h9 => .inl h9.1) fun h9 => .inr h9.2⟩
   by_cases u1 : u.1 = 1
   ·refine ⟨⟨false, g.drop, fgK e.past g.marks⟩, ?_, ⟨?_, h.drop, h.srt.filter _, fun k4 => by omega, fun _ x => ?_⟩, by simp only;have := hfl e.past;omega⟩
    ·simp [cellF, k, u1]
    ·rw [hpt, ← h.put, hput (by omega)]
     simp only [Bool.false_eq_true, false_or, false_iff]
     omega
    ·rw [hlv]
     show x ∈ fgK e.past g.marks ↔ _
     rw [hfm, h.liv (by omega)]
     exact ⟨fun h9 => .inl ⟨h9.1, fun _ => h9.2⟩, fun h9 => h9.elim (fun h9 => ⟨h9.1, h9.2 (by omega)⟩) fun h9 => by omega⟩
   ·exact hsame (by simp [cellF, k, u0, u1]) (fun _ => ⟨by omega, by omega⟩) (fun h => by omega) (fun h => by omega)
  ·have nb : bK t.kind = 1 := by rw [k];rfl
   have nk : kK t.kind = 0 := by rw [k];rfl
   by_cases u1 : u.1 = 1
   ·refine ⟨⟨g.put, g.drop, insK g.marks (mkE t e u)⟩, ?_, ⟨?_, h.drop, i1, fun k4 => by omega, fun _ x => ?_⟩, by simp [hil]⟩
    ·simp only [cellF, k, u1, true_and, or_true, if_true]
     rw [← k, ← hmk, hadd]
    ·rw [hpt, h.put];exact ⟨.inl, fun h => h.elim id fun h => by omega⟩
    ·rw [hlv]
     show x ∈ insK g.marks (mkE t e u) ↔ _
     rw [i2, h.liv (by omega)]
     exact ⟨fun h9 => h9.elim (fun h9 => .inl ⟨h9, fun h => by omega⟩) fun h9 => .inr ⟨by omega, h9⟩, fun h9 => h9.elim (fun h9 => .inl h9.1) fun h9 => .inr h9.2⟩
   by_cases u0 : u.1 = 0
   ·refine ⟨⟨true, false, fgK e.past g.marks⟩, ?_, ⟨?_, rfl, h.srt.filter _, fun k4 => by omega, fun _ x => ?_⟩, by simp only;have := hfl e.past;omega⟩
    ·simp [cellF, k, u0]
    ·rw [hpt];simp [k, u0]
    ·rw [hlv]
     show x ∈ fgK e.past g.marks ↔ _
     rw [hfm, h.liv (by omega)]
     exact ⟨fun h9 => .inl ⟨h9.1, fun _ => h9.2⟩, fun h9 => h9.elim (fun h9 => ⟨h9.1, h9.2 (by omega)⟩) fun h9 => by omega⟩
   ·exact hsame (by simp [cellF, k, u0, u1]) (fun _ => ⟨by omega, by omega⟩) (fun h => by omega) (fun _ => u0)
  ·have nb : bK t.kind = 2 := by rw [k];rfl
   by_cases u2 : u.1 = 2
   ·have hc : ∀ q, lastF g.marks (mkE t e u) = (0, q) → cellF e t (some u) g = (0, ⟨g.put, g.drop, q⟩) := fun q hq => by
     simp only [cellF, k, u2]
     rw [← k, ← hmk, hq];simp [k]
    have hx : ∀ x, Asg m t i (P ++ [e]) x ↔ Asg m t i P x ∨ x = mkE t e u := fun x => by rw [asg_snoc, hu];simp [nb, u2]
    have hpp : g.put = true ↔ PutP m t i (P ++ [e]) := by rw [hpt, h.put];exact ⟨.inl, fun h => h.elim id fun h => by omega⟩
    rcases h.four k with ⟨h1, h2⟩|⟨x, h1, h2, h3⟩
    ·refine ⟨⟨g.put, g.drop, [mkE t e u]⟩, hc _ ?_, ⟨hpp, h.drop, by simp, fun _ => .inr ⟨_, rfl, (hx _).2 (.inr rfl), fun y hy => ?_⟩, fun h => absurd k h⟩, by simp⟩
     ·rw [h1] at hadd ⊢
      rw [lastF, hadd]
      simp [insK, posK, idxN]
     ·rcases (hx y).1 hy with hy|rfl
      ·exact absurd hy (h2 y)
      ·exact fun h => LtK_asymm _ _ h h
    ·by_cases hc2 : cmp2 x (mkE t e u) < 0
     ·have hlt : LtK x (mkE t e u) := by have := cmp2_neg.1 hc2;unfold LtK;omega
      refine ⟨⟨g.put, g.drop, [mkE t e u]⟩, hc _ (by rw [h1, lastF, if_pos hc2]), ⟨hpp, h.drop, by simp, fun _ => .inr ⟨_, rfl, (hx _).2 (.inr rfl), fun y hy h9 => ?_⟩, fun h => absurd k h⟩, by simp⟩
      rcases (hx y).1 hy with hy|rfl
      ·exact h3 y hy (hlt.trans h9)
      ·exact LtK_asymm _ _ h9 h9
     ·refine ⟨⟨g.put, g.drop, [x]⟩, hc _ (by rw [h1, lastF, if_neg hc2]), ⟨hpp, h.drop, by simp, fun _ => .inr ⟨x, rfl, (hx _).2 (.inl h2), fun y hy h9 => ?_⟩, fun h => absurd k h⟩, by simp⟩
      rcases (hx y).1 hy with hy|rfl
      ·exact h3 y hy h9
      ·obtain ⟨p, hp, w, _, _, rfl⟩ := h2
       have a1 := hn.tm p hp
       rw [cmp2_neg] at hc2
       unfold LtK at h9
       simp only [mkE] at hc2 h9
       omega
   ·exact hsame (by simp [cellF, k, u2]) (fun h => absurd k h) (fun _ => u2) (fun h => by omega)
  ·have nb : bK t.kind = 2 := by rw [k];rfl
   have nk : kK t.kind = 2 := by rw [k];rfl
   by_cases u2 : u.1 = 2
   ·have hno2 : ¬ HasNm (fgK e.past g.marks) (mkE t e u) := fun ⟨x, hx, hxn⟩ => hno ⟨x, ((hfm _ _).1 hx).1, hxn⟩
    have hfl2 := hfl e.past
    have hadd2 : addF (fgK e.past g.marks) (mkE t e u) = (0, insK (fgK e.past g.marks) (mkE t e u)) := by rw [addF, if_neg hno2, if_neg (by omega)]
    obtain ⟨j1, j2⟩ := ins_lt (l := fgK e.past g.marks) (h.srt.filter _) hno2
    refine ⟨⟨g.put, g.drop, insK (fgK e.past g.marks) (mkE t e u)⟩, ?_, ⟨?_, h.drop, j1, fun k4 => by omega, fun _ x => ?_⟩, by simp only [hil];omega⟩
    ·simp only [cellF, k, u2]
     rw [← k, ← hmk, hadd2];simp [k]
    ·rw [hpt, h.put];exact ⟨.inl, fun h => h.elim id fun h => by omega⟩
    ·rw [hlv]
     show x ∈ insK (fgK e.past g.marks) (mkE t e u) ↔ _
     rw [show x ∈ insK (fgK e.past g.marks) (mkE t e u) ↔ x ∈ fgK e.past g.marks ∨ x = mkE t e u from j2 x, hfm, h.liv (by omega)]
     exact ⟨fun h9 => h9.elim (fun h9 => .inl ⟨h9.1, fun _ => h9.2⟩) fun h9 => .inr ⟨by omega, h9⟩, fun h9 => h9.elim (fun h9 => .inl ⟨h9.1, h9.2 (by omega)⟩) fun h9 => .inr h9.2⟩
   ·exact hsame (by simp [cellF, k, u2]) (fun _ => ⟨by omega, by omega⟩) (fun h => by omega) (fun h => by omega)
end Go.Proofs.YtmjllbjfkafhdaaGreatDoor
namespace Go.Proofs.YtmjllbjfkafhdaaGreatDoor
open Go Go.CF
set_option maxRecDepth 20000
def isSt (k : Int) : Prop := k = 2 ∨ k = 3
def FitU (m : ModS) : Prop := ∀ a ∈ m.acts, ∀ u ∈ a.eff.updates, ∀ (i : Nat) t, u.2.1 = i → (mrgF m)[i]? = some t → (isSt t.kind ↔ u.1 = 0 ∨ u.1 = 1) ∧ (¬ isSt t.kind → t.lo ≤ u.2.2 ∧ u.2.2 ≤ t.hi)
structure KnL (m : ModS) (P : List EvS) (l : List MgS) : Prop where
 len : l.length = (mrgF m).length
 kn : ∀ (i : Nat) t g, (mrgF m)[i]? = some t → l[i]? = some g → Kn m t i P g ∧ g.marks.length ≤ P.length
theorem kd_of {m : ModS} (hm : LayOK m.sorts m.tables) {i : Nat} {t : TblS} (ht : (mrgF m)[i]? = some t) : Kd t := by
 have := kindM hm t (List.mem_of_getElem? ht)
 unfold Kd;omega
theorem updE_mem {m : ModS} {e : EvS} {i : Nat} {u : UpS} (h : updE m e i = some u) : ∃ a ∈ m.acts, u ∈ a.eff.updates ∧ u.2.1 = i := by
 unfold updE at h
 split at h
 ·have h1 := List.mem_of_find?_eq_some h
  have h2 := List.find?_some h
  have h2 : u.2.1 = (i : Int) := by simpa using h2
  rw [List.mem_reverse] at h1
  unfold usF at h1
  cases ha : m.acts[e.action.toNat]? with
  | none => rw [ha] at h1;cases h1
  | some a => rw [ha] at h1;exact ⟨a, List.mem_of_getElem? ha, h1, h2⟩
 ·cases h
theorem Kn.valG {m : ModS} {t : TblS} {i : Nat} {P : List EvS} {g : MgS} (hf : FitU m) (ht : (mrgF m)[i]? = some t) (hk : Kd t) (hu : UniqP P) (hP : ∀ e ∈ P, FormedE e) (h : Kn m t i P g) (hl : g.marks.length ≤ 1024) : ValG t g := by
 refine ⟨⟨fun h9 => ?_, fun h9 => ?_, fun h9 => ?_, hl⟩, fun j x hj hx => ⟨?_, fun q y hq hy hn => ?_, fun y hq hy h9 => ?_⟩⟩
 ·rw [h.drop] at h9;cases h9
 ·have := (h.put.1 h9.1).1
  have := h9.2
  unfold isReg at this;omega
 ·rcases h.four h9.1 with ⟨h1, _⟩|⟨x, h1, _⟩
  ·rw [h1] at h9;simp at h9
  ·rw [h1] at h9;simp at h9
 ·obtain ⟨e, he, u, h1, h2, rfl⟩ := h.mem (List.mem_of_getElem? hx)
  obtain ⟨f1, f2, ⟨y, f3, f4⟩, f5, f6, f7⟩ := hP e he
  have hlen := (List.getElem?_eq_some_iff.1 f3).1
  have := f1.1 y (List.mem_of_getElem? f3)
  have := f1.2
  unfold rngK at *
  unfold Btw at f6
  obtain ⟨a, ha, hua, hui⟩ := updE_mem h1
  have hfit := hf a ha u hua i t hui ht
  refine ⟨by simp only [mkE];omega, by simp only [mkE];omega, by simp only [mkE];omega, ?_⟩
  simp only [mkE, lowT, highT]
  by_cases hr : isReg t.kind
  ·rw [if_pos hr, if_pos hr, if_pos hr]
   exact hfit.2 (by unfold isReg at hr;unfold isSt;omega)
  ·rw [if_neg hr, if_neg hr, if_neg hr];omega
 ·have h1 := h.mem (List.mem_of_getElem? hx)
  have h2 := h.mem (List.mem_of_getElem? hy)
  have := asg_nm hu h2 h1 hn
  subst this
  obtain ⟨j1, rfl⟩ := List.getElem?_eq_some_iff.1 hx
  obtain ⟨q1, hq2⟩ := List.getElem?_eq_some_iff.1 hy
  have := List.pairwise_iff_getElem.1 h.srt q j q1 j1 hq
  rw [hq2] at this
  exact LtK_asymm _ _ this this
 ·obtain ⟨j1, rfl⟩ := List.getElem?_eq_some_iff.1 hx
  obtain ⟨q1, rfl⟩ := List.getElem?_eq_some_iff.1 hy
  exact LtK_asymm _ _ h9 (List.pairwise_iff_getElem.1 h.srt (j - 1) j q1 j1 (by omega))
theorem KnL.valL {m : ModS} {P : List EvS} {l : List MgS} (hm : LayOK m.sorts m.tables) (hf : FitU m) (hu : UniqP P) (hP : ∀ e ∈ P, FormedE e) (hl : P.length ≤ 1024) (h : KnL m P l) : ValL (mrgF m) l :=
 ⟨h.len.symm, fun i t g ht hg => (h.kn i t g ht hg).1.valG hf ht (kd_of hm ht) hu hP (by have := (h.kn i t g ht hg).2;omega)⟩
theorem KnL.nil (m : ModS) : KnL m [] (List.replicate (mrgF m).length mg0) := by
 refine ⟨by simp, fun i t g _ hg => ?_⟩
 have : g = mg0 := (List.mem_replicate.1 (List.mem_of_getElem? hg)).2
 subst this
 exact ⟨⟨by simp [mg0, PutP], rfl, .nil, fun _ => .inl ⟨rfl, fun x ⟨e, he, _⟩ => by cases he⟩, fun _ x => by simp [mg0, Liv]⟩, by simp [mg0]⟩
theorem apply_step {m : ModS} {P : List EvS} {l : List MgS} {e : EvS} (hm : LayOK m.sorts m.tables) (hv : ValL (mrgF m) l) (hl : P.length < 1024) (h : KnL m P l) (he : EvV m (e.past.length : Nat) e) (hn : Nxt P e) :
  ∃ l', applyF m l e = (0, l') ∧ KnL m (P ++ [e]) l' ∧ ∀ (i : Nat) t g, (mrgF m)[i]? = some t → l[i]? = some g → l'[i]? = some (cellF e t (updE m e i) g).2 := by
 have hstep : ∀ (i : Nat) t g, (mrgF m)[i]? = some t → l[i]? = some g → ∃ g', cellF e t (updE m e i) g = (0, g') ∧ Kn m t i (P ++ [e]) g' ∧ g'.marks.length ≤ g.marks.length + 1 := fun i t g ht hg =>
  cell_step (kd_of hm ht) (h.kn i t g ht hg).1 (by have := (h.kn i t g ht hg).2;omega) hn
 by_cases hk : e.kind = 0
 ·have hup : ∀ i : Nat, updE m e i = updF (usF m e) i := fun i => if_pos hk
  have hat : ∀ (i : Nat) t g, (mrgF m)[i]? = some t → l[i]? = some g → (cellsF (mrgF m) l (usF m e) e)[i]? = some (cellF e t (updE m e i) g) := fun i t g ht hg => by rw [hup];exact cellsF_at ht hg
  have hall : ∀ p ∈ cellsF (mrgF m) l (usF m e) e, p.1 = 0 := fun p hp => by
   obtain ⟨i, hi⟩ := List.getElem?_of_mem hp
   have hil := (List.getElem?_eq_some_iff.1 hi).1
   rw [cellsF_len] at hil
   obtain ⟨g, hg⟩ := get_of hil
   obtain ⟨t, ht⟩ := get_of (l := mrgF m) (i := i) (by rw [← h.len];exact hil)
   obtain ⟨g', h1, _⟩ := hstep i t g ht hg
   rw [hat i t g ht hg, h1] at hi
   cases hi;rfl
  refine ⟨(cellsF (mrgF m) l (usF m e) e).map (·.2), ?_, ⟨by rw [List.length_map, cellsF_len, h.len], fun i t g' ht hg' => ?_⟩, fun i t g ht hg => by rw [List.getElem?_map, hat i t g ht hg];rfl⟩
  ·rw [applyF, if_neg (fun h9 => h9 ⟨hv, he⟩), if_neg (fun h9 => h9 hk), gather_end (fun p hp => .inl (hall p hp)), if_neg]
   rintro ⟨p, hp, h8⟩
   rw [hall p hp] at h8;cases h8
  ·obtain ⟨g, hg⟩ := get_of (l := l) (i := i) (by rw [h.len];exact (List.getElem?_eq_some_iff.1 ht).1)
   obtain ⟨g2, h1, h2, h3⟩ := hstep i t g ht hg
   rw [List.getElem?_map, hat i t g ht hg, h1] at hg'
   cases hg'
   have := (h.kn i t g ht hg).2
   exact ⟨h2, by simp;omega⟩
 ·have hup : ∀ i : Nat, updE m e i = none := fun i => if_neg hk
  refine ⟨l, by rw [applyF, if_neg (fun h9 => h9 ⟨hv, he⟩), if_pos hk], ⟨h.len, fun i t g ht hg => ?_⟩, fun i t g ht hg => by rw [hup];exact hg⟩
  obtain ⟨g2, h1, h2, h3⟩ := hstep i t g ht hg
  rw [hup] at h1
  have e1 : g = g2 := congrArg Prod.snd h1
  subst e1
  have := (h.kn i t g ht hg).2
  exact ⟨h2, by simp;omega⟩
/-! ### Closed lists -/
theorem uniqP_of {l : List EvS} (h : Uniq l) : UniqP l := fun a ha b hb h1 h2 => h.eq ha hb (by rw [nm, nm, h1, h2])
theorem has_self {e : EvS} (h : FormedE e) : ¬ HasC e.past e.rep e.num := by
 obtain ⟨_, _, ⟨x, h1, h2⟩, _⟩ := h
 rintro ⟨_, _, _, y, h3, h4⟩
 rw [h1] at h3;cases h3;omega
theorem closed_past {l : List EvS} (h : ClosedE l) {e d : EvS} (hd : d ∈ l) (he : e ∈ l) (hh : HasC d.past e.rep e.num) : e.time < d.time ∧ Cont e.past d.past := by
 obtain ⟨h1, h2, h3, x, h4, h5⟩ := hh
 obtain ⟨y, hy, g1, g2, g3, g4⟩ := h.2.2.2 d hd e.rep.toNat x h4 e.num h3 h5
 have : y = e := uniqP_of h.2.1 y hy e he (by omega) g2
 subst this
 exact ⟨g4, g3⟩
theorem has_of_lt {l : List EvS} (h : ClosedE l) {e d : EvS} (hd : d ∈ l) (he : e ∈ l) (hr : e.rep = d.rep) (hn : e.num < d.num) : HasC d.past e.rep e.num := by
 obtain ⟨f1, f2, ⟨x, f3, f4⟩, _⟩ := (h.2.2.1 d hd).1
 obtain ⟨g1, g2, ⟨y, g3, g4⟩, _⟩ := (h.2.2.1 e he).1
 have := g1.1 y (List.mem_of_getElem? g3)
 unfold rngK at this
 exact ⟨f1, by omega, by omega, x, by rw [hr];exact f3, by omega⟩
end Go.Proofs.YtmjllbjfkafhdaaGreatDoor
namespace Go.Proofs.YtmjllbjfkafhdaaGreatDoor
open Go Go.CF
set_option maxRecDepth 20000
theorem rng_max (x y : Int) (hx : rngK x) (hy : rngK y) : rngK (max x y) := by unfold rngK at *;omega
theorem clkE_val {n : Nat} (hn : 1 ≤ n ∧ n ≤ 5) {l : List EvS} (hl : ∀ e ∈ l, rngK e.num) : ValC (clkE n l) := by
 have key : ∀ (l : List EvS) (c : List Int), (∀ e ∈ l, rngK e.num) → (∀ x ∈ c, rngK x) → ∀ x ∈ l.foldl (fun c e => c.set e.rep.toNat (max (c[e.rep.toNat]?.getD 0) e.num)) c, rngK x := by
  intro l
  induction l with
  | nil => exact fun c _ h => h
  | cons e l ih =>
   intro c h1 h2
   rw [List.foldl_cons]
   refine ih _ (fun d hd => h1 d (List.mem_cons_of_mem _ hd)) fun x hx => ?_
   rcases List.mem_or_eq_of_mem_set hx with h|rfl
   ·exact h2 x h
   ·have h3 := h1 e (by simp)
    have h4 : rngK (c[e.rep.toNat]?.getD 0) := by
     cases hc : c[e.rep.toNat]? with
     | none => simp [rngK]
     | some y => exact h2 y (List.mem_of_getElem? hc)
    exact rng_max _ _ h4 h3
 refine ⟨key l _ hl fun x hx => ?_, by rw [clkE_len];omega⟩
 rw [(List.mem_replicate.1 hx).2];simp [rngK]
theorem formed_num {e : EvS} (h : FormedE e) : rngK e.num := by
 obtain ⟨f1, _, ⟨x, f3, f4⟩, f5, _⟩ := h
 have := f1.1 x (List.mem_of_getElem? f3)
 unfold rngK at *;omega
end Go.Proofs.YtmjllbjfkafhdaaGreatDoor
namespace Go.Proofs.YtmjllbjfkafhdaaGreatDoor
open Go Go.CF
set_option maxRecDepth 20000
def SuitE (m : ModS) (l : List EvS) : Prop := MOK m ∧ FewV l ∧ ClosedE l ∧ FitU m ∧ ∀ e ∈ l, EvV m (n0 l : Nat) e
end Go.Proofs.YtmjllbjfkafhdaaGreatDoor
namespace Go.Proofs.YtmjllbjfkafhdaaGreatDoor
open Go Go.CF
set_option maxRecDepth 20000
theorem uniqP_sub {l X : List EvS} (h : UniqP l) (hX : ∀ e ∈ X, e ∈ l) : UniqP X := fun a ha b hb => h a (hX a ha) b (hX b hb)
end Go.Proofs.YtmjllbjfkafhdaaGreatDoor
namespace Go.Proofs.YtmjllbjfkafhdaaGreatDoor
open Go Go.CF
set_option maxRecDepth 20000
/-! ### The clock of events -/
theorem clk_key {n : Nat} : ∀ (A : List EvS) (c : List Int), c.length = n → (∀ x ∈ c, 0 ≤ x) → (∀ a ∈ A, a.rep.toNat < n ∧ 0 ≤ a.num) → ∀ q, q < n →
  ∃ y, (A.foldl (fun c e => c.set e.rep.toNat (max (c[e.rep.toNat]?.getD 0) e.num)) c)[q]? = some y ∧ 0 ≤ y ∧ ∀ k, 1 ≤ k → (k ≤ y ↔ (∃ z, c[q]? = some z ∧ k ≤ z) ∨ ∃ a ∈ A, a.rep.toNat = q ∧ k ≤ a.num) := by
 intro A
 induction A with
 | nil =>
  intro c hc h0 _ q hq
  obtain ⟨z, hz⟩ := get_of (l := c) (i := q) (by omega)
  exact ⟨z, hz, h0 z (List.mem_of_getElem? hz), fun k _ => by simp [hz]⟩
 | cons a A ih =>
  intro c hc h0 hA q hq
  obtain ⟨h1, h2⟩ := hA a (by simp)
  obtain ⟨u, hu⟩ := get_of (l := c) (i := a.rep.toNat) (by omega)
  have hu0 := h0 u (List.mem_of_getElem? hu)
  rw [List.foldl_cons]
  obtain ⟨y, e1, e2, e3⟩ := ih (c.set a.rep.toNat (max (c[a.rep.toNat]?.getD 0) a.num)) (by rw [List.length_set];exact hc) (fun x hx => by
   rcases List.mem_or_eq_of_mem_set hx with h|h
   ·exact h0 x h
   ·rw [h, hu, Option.getD_some];omega) (fun b hb => hA b (List.mem_cons_of_mem _ hb)) q hq
  refine ⟨y, e1, e2, fun k hk => (e3 k hk).trans ?_⟩
  rw [List.getElem?_set]
  by_cases hqa : a.rep.toNat = q
  ·subst hqa
   rw [if_pos rfl, if_pos (by omega), hu, Option.getD_some]
   constructor
   ·rintro (⟨z, hz, hkz⟩|⟨b, hb, hb1, hb2⟩)
    ·cases hz
     by_cases hku : k ≤ u
     ·exact .inl ⟨u, rfl, hku⟩
     ·exact .inr ⟨a, by simp, rfl, by omega⟩
    ·exact .inr ⟨b, List.mem_cons_of_mem _ hb, hb1, hb2⟩
   ·rintro (⟨z, hz, hkz⟩|⟨b, hb, hb1, hb2⟩)
    ·cases hz;exact .inl ⟨_, rfl, by omega⟩
    ·rcases List.mem_cons.1 hb with rfl|hb
     ·exact .inl ⟨_, rfl, by omega⟩
     ·exact .inr ⟨b, hb, hb1, hb2⟩
  ·rw [if_neg hqa]
   constructor
   ·rintro (h|⟨b, hb, hb1, hb2⟩)
    ·exact .inl h
    ·exact .inr ⟨b, List.mem_cons_of_mem _ hb, hb1, hb2⟩
   ·rintro (h|⟨b, hb, hb1, hb2⟩)
    ·exact .inl h
    ·rcases List.mem_cons.1 hb with rfl|hb
     ·exact absurd hb1 hqa
     ·exact .inr ⟨b, hb, hb1, hb2⟩
structure Cau (l A : List EvS) : Prop where
 sub : ∀ a ∈ A, a ∈ l
 cls : ∀ a ∈ A, ∀ d ∈ l, HasC a.past d.rep d.num → d ∈ A
theorem formed_rep {e : EvS} (h : FormedE e) : 0 ≤ e.rep ∧ e.rep.toNat < e.past.length ∧ 1 ≤ e.num := by
 obtain ⟨f1, f2, ⟨x, f3, f4⟩, _⟩ := h
 have := f1.1 x (List.mem_of_getElem? f3)
 unfold rngK at this
 exact ⟨f2, (List.getElem?_eq_some_iff.1 f3).1, by omega⟩
theorem n0_rng {l : List EvS} (hc : ClosedE l) {e : EvS} (he : e ∈ l) : 1 ≤ n0 l ∧ n0 l ≤ 5 := by
 have h := hc.2.2.1 e he
 rw [← h.2];exact h.1.1.2
theorem clkE_at {l A : List EvS} (hc : ClosedE l) (hA : ∀ a ∈ A, a ∈ l) {q : Nat} (hq : q < n0 l) : ∃ y, (clkE (n0 l) A)[q]? = some y ∧ 0 ≤ y ∧ ∀ k, 1 ≤ k → (k ≤ y ↔ ∃ a ∈ A, a.rep.toNat = q ∧ k ≤ a.num) := by
 obtain ⟨y, h1, h2, h3⟩ := clk_key (n := n0 l) A (List.replicate (n0 l) 0) (by simp) (fun x hx => by rw [(List.mem_replicate.1 hx).2];exact Int.le_refl 0) (fun a ha => by
  have hf := hc.2.2.1 a (hA a ha)
  have := formed_rep hf.1
  rw [hf.2] at this
  exact ⟨this.2.1, by omega⟩) q hq
 refine ⟨y, h1, h2, fun k hk => (h3 k hk).trans ⟨fun h => h.elim (fun ⟨z, hz, hkz⟩ => ?_) id, .inr⟩⟩
 rw [List.getElem?_replicate, if_pos hq] at hz
 cases hz;omega
theorem clk_valC {l A : List EvS} (hc : ClosedE l) (hA : ∀ a ∈ A, a ∈ l) (hn : 1 ≤ n0 l ∧ n0 l ≤ 5) : ValC (clkE (n0 l) A) := clkE_val hn fun e he => formed_num (hc.2.2.1 e (hA e he)).1
theorem clk_has {l A : List EvS} (hc : ClosedE l) (hA : Cau l A) {e : EvS} (he : e ∈ l) : HasC (clkE (n0 l) A) e.rep e.num ↔ e ∈ A := by
 have hf := hc.2.2.1 e he
 have hr := formed_rep hf.1
 rw [hf.2] at hr
 obtain ⟨y, h1, h2, h3⟩ := clkE_at hc hA.sub hr.2.1
 constructor
 ·rintro ⟨_, _, _, x, hx, hnx⟩
  rw [h1] at hx;cases hx
  obtain ⟨a, ha, ha1, ha2⟩ := (h3 e.num hr.2.2).1 hnx
  have hfa := formed_rep (hc.2.2.1 a (hA.sub a ha)).1
  have har : e.rep = a.rep := by omega
  by_cases hlt : e.num < a.num
  ·exact hA.cls a ha e he (has_of_lt hc (hA.sub a ha) he har hlt)
  ·have := uniqP_of hc.2.1 e he a (hA.sub a ha) har (by omega)
   rw [this];exact ha
 ·intro h
  exact ⟨clk_valC hc hA.sub (n0_rng hc he), hr.1, hr.2.2, y, h1, (h3 e.num hr.2.2).2 ⟨e, h, rfl, Int.le_refl _⟩⟩
theorem clk_ins {l A : List EvS} (hc : ClosedE l) (hA : Cau l A) {e : EvS} (he : e ∈ l) (hp : ∀ d ∈ l, HasC e.past d.rep d.num → d ∈ A) : Ins e.past (clkE (n0 l) A) := fun i x y hx hy => by
 have hf := hc.2.2.1 e he
 have hil := (List.getElem?_eq_some_iff.1 hx).1
 obtain ⟨z, h1, h2, h3⟩ := clkE_at hc hA.sub (q := i) (by rw [← hf.2];exact hil)
 rw [hy] at h1;cases h1
 by_cases hx1 : 1 ≤ x
 ·obtain ⟨d, hd, g1, g2, _, _⟩ := hc.2.2.2 e he i x hx x hx1 (Int.le_refl _)
  have hdA := hp d hd ⟨hf.1.1, by omega, by omega, x, by rw [g1];simpa using hx, by omega⟩
  exact (h3 x hx1).2 ⟨d, hdA, by omega, by omega⟩
 ·omega
/-! ### States -/
theorem add1_len (s : List Int) (p : Int × Int) : (add1 s p).length = s.length := by simp [add1]
theorem addD_len (d : List (Int × Int)) : ∀ s : List Int, (addD s d).length = s.length := by
 induction d with
 | nil => intro s;rfl
 | cons p d ih => intro s;rw [addD, List.foldl_cons];exact (ih _).trans (add1_len s p)
theorem addE_len (m : ModS) (s : List Int) (e : EvS) : (addE m s e).length = s.length := by
 unfold addE;split
 ·exact addD_len _ s
 ·rfl
theorem wrap_id {x : Int} (h : -9223372036854775808 ≤ x ∧ x ≤ 9223372036854775807) : IntKind.i64.wrap x = x := by rw [IntKind.wrap_i64];omega
theorem addD_bnd (d : List (Int × Int)) : ∀ (s : List Int) (B : Int), 0 ≤ B → B + 1000 * d.length ≤ 1000000000 → (∀ x ∈ s, -B ≤ x ∧ x ≤ B) → (∀ p ∈ d, -1000 ≤ p.2 ∧ p.2 ≤ 1000) → ∀ x ∈ addD s d, -(B + 1000 * d.length) ≤ x ∧ x ≤ B + 1000 * d.length := by
 induction d with
 | nil => intro s B _ _ h _ x hx;have := h x hx;simp only [List.length_nil];omega
 | cons p d ih =>
  intro s B hB hb h hd x hx
  simp only [List.length_cons] at hb ⊢
  have hp := hd p (by simp)
  have h1 : ∀ x ∈ add1 s p, -(B + 1000) ≤ x ∧ x ≤ B + 1000 := fun x hx => by
   rcases List.mem_or_eq_of_mem_set hx with h9|h9
   ·have := h x h9;omega
   ·have h0 : -B ≤ s[p.1.toNat]?.getD 0 ∧ s[p.1.toNat]?.getD 0 ≤ B := by
     cases hs : s[p.1.toNat]? with
     | none => simp only [Option.getD_none];omega
     | some z => exact h z (List.mem_of_getElem? hs)
    rw [h9, wrap_id (by omega)]
    omega
  have := ih (add1 s p) (B + 1000) (by omega) (by omega) h1 (fun q hq => hd q (List.mem_cons_of_mem _ hq)) x hx
  omega
def SmD (m : ModS) : Prop := ∀ a ∈ m.acts, a.eff.delta.length ≤ 20 ∧ ∀ p ∈ a.eff.delta, -1000 ≤ p.2 ∧ p.2 ≤ 1000
theorem dlt_sm {m : ModS} (h : SmD m) (e : EvS) : (dltF m e).length ≤ 20 ∧ ∀ p ∈ dltF m e, -1000 ≤ p.2 ∧ p.2 ≤ 1000 := by
 unfold dltF
 cases ha : m.acts[e.action.toNat]? with
 | none => simp
 | some a => exact h a (List.mem_of_getElem? ha)
theorem addE_bnd {m : ModS} (h : SmD m) (e : EvS) {s : List Int} {k : Nat} (hk : k ≤ 1000) (hs : ∀ x ∈ s, -(1000 + 20000 * (k : Int)) ≤ x ∧ x ≤ 1000 + 20000 * (k : Int)) : ∀ x ∈ addE m s e, -(1000 + 20000 * ((k + 1 : Nat) : Int)) ≤ x ∧ x ≤ 1000 + 20000 * ((k + 1 : Nat) : Int) := by
 intro x hx
 unfold addE at hx
 split at hx
 ·obtain ⟨d1, d2⟩ := dlt_sm h e
  have := addD_bnd (dltF m e) s (1000 + 20000 * (k : Int)) (by omega) (by omega) hs d2 x hx
  omega
 ·have := hs x hx;omega
structure StoA (m : ModS) (l : List EvS) (ld : List Int) (A : List EvS) (w : NowS) : Prop where
 clock : w.clock = clkE (n0 l) A
 time : w.time = A.foldl (fun t e => max t e.time) 0
 state : w.state = A.foldl (addE m) ld
 merged : KnL m A w.merged
 places : w.places = A.foldl plE []
theorem sto_bnd {m : ModS} (h : SmD m) {ld : List Int} (hl : ∀ x ∈ ld, -1000 ≤ x ∧ x ≤ 1000) : ∀ (A : List EvS), A.length ≤ 1000 → ∀ x ∈ A.foldl (addE m) ld, -(1000 + 20000 * (A.length : Int)) ≤ x ∧ x ≤ 1000 + 20000 * (A.length : Int) := by
 have key : ∀ (A : List EvS), A.reverse.length ≤ 1000 → ∀ x ∈ A.reverse.foldl (addE m) ld, -(1000 + 20000 * (A.reverse.length : Int)) ≤ x ∧ x ≤ 1000 + 20000 * (A.reverse.length : Int) := by
  intro A
  induction A with
  | nil => intro _ x hx;have := hl x hx;simp;omega
  | cons e A ih =>
   intro hA x hx
   rw [List.reverse_cons, List.foldl_append] at hx
   rw [List.length_reverse, List.length_cons] at hA
   have h2 := addE_bnd h e (k := A.reverse.length) (by simp;omega) (ih (by simp;omega)) x hx
   simpa using h2
 intro A hA
 have := key A.reverse (by simpa using hA)
 simpa using this
theorem nxt_cau {l A : List EvS} (hc : ClosedE l) (hA : Cau l A) {e : EvS} (he : e ∈ l) (hn : e ∉ A) : Nxt A e := by
 have hu := uniqP_of hc.2.1
 refine ⟨fun p hp ⟨h1, h2⟩ => hn ?_, fun p hp hh => hn (hA.cls p hp e he hh), fun p hp ⟨h1, h2⟩ => ?_, has_self (hc.2.2.1 e he).1⟩
 ·rw [← hu p (hA.sub p hp) e he h1 h2];exact hp
 ·rcases Int.lt_trichotomy p.num e.num with h|h|h
  ·have := (closed_past hc he (hA.sub p hp) (has_of_lt hc he (hA.sub p hp) h2 h)).1
   omega
  ·exact hn (by rw [← hu p (hA.sub p hp) e he h2 h];exact hp)
  ·exact hn (hA.cls p hp e he (has_of_lt hc (hA.sub p hp) he h2.symm h))
theorem deliver_ok {m : ModS} {l A : List EvS} {ld : List Int} {w : NowS} {e : EvS} (hs : SuitE m l) (hl : l.length ≤ 100) (hd : SmD m) (hld : ∀ x ∈ ld, -1000 ≤ x ∧ x ≤ 1000) (hw : StoA m l ld A w) (hAl : A.length ≤ 100) (hA : Cau l A) (he : e ∈ l) (hn : e ∉ A) (hp : ∀ d ∈ l, HasC e.past d.rep d.num → d ∈ A) :
  ∃ w', deliverF m A w e = (0, w') ∧ StoA m l ld (A ++ [e]) w' := by
 obtain ⟨hm, hfw, hc, hf, hv⟩ := hs
 have hnx := nxt_cau hc hA he hn
 have hu : UniqP A := uniqP_sub (uniqP_of hc.2.1) hA.sub
 have hval := hw.merged.valL hm.lay hf hu (fun x hx => (hc.2.2.1 x (hA.sub x hx)).1) (by omega)
 have hpl : e.past.length = n0 l := (hc.2.2.1 e he).2
 have hev : EvV m (e.past.length : Nat) e := by rw [hpl];exact hv e he
 obtain ⟨k', a1, a2, -⟩ := apply_step hm.lay hval (by omega) hw.merged hev hnx
 have hclen : w.clock.length = n0 l := by rw [hw.clock, clkE_len]
 have hb := addE_bnd hd e (k := A.length) (by omega) (sto_bnd hd hld A (by omega))
 have h1 : EvV m (w.clock.length : Nat) e := by rw [hclen];exact hv e he
 have h2 : ¬ HasC w.clock e.rep e.num := by rw [hw.clock];exact fun h => hn ((clk_has hc hA he).1 h)
 have h3 : Ins e.past w.clock := by rw [hw.clock];exact clk_ins hc hA he hp
 have h4 : ¬ LateE A e := fun ⟨x, hx, hh, ht⟩ => by
  have := (closed_past hc he (hA.sub x hx) hh).1
  omega
 have h5 : ¬ (e.kind = 0 ∧ ¬ insS (addE m w.state e)) := fun ⟨_, h⟩ => h fun x hx => by
  rw [hw.state] at hx
  have := hb x hx
  omega
 have h6 : ¬ (applyF m w.merged e).1 ≠ 0 := by rw [a1];exact fun h => h rfl
 refine ⟨⟨cntF w.clock e, max w.time e.time, addE m w.state e, k', plE w.places e⟩, ?_, ⟨?_, ?_, ?_, a2, ?_⟩⟩
 ·rw [deliverF, if_neg (fun h => h h1), if_neg h2, if_neg (fun h => h h3), if_neg h4, if_neg h5, if_neg h6, a1]
 ·simp only [hw.clock, clkE, List.foldl_append, cntF];rfl
 ·simp only [hw.time, List.foldl_append];rfl
 ·simp only [hw.state, List.foldl_append];rfl
 ·simp only [hw.places, List.foldl_append];rfl
end Go.Proofs.YtmjllbjfkafhdaaGreatDoor
namespace Go.Proofs.YtmjllbjfkafhdaaGreatDoor
open Go Go.CF
set_option maxRecDepth 20000
structure ExtO (l X : List EvS) : Prop where
 sub : ∀ e ∈ X, e ∈ l
 nxt : ∀ (i : Nat) e, X[i]? = some e → e ∉ X.take i ∧ ∀ d ∈ l, HasC e.past d.rep d.num → d ∈ X.take i
theorem ExtO.cau {l X : List EvS} (h : ExtO l X) (i : Nat) : Cau l (X.take i) := by
 refine ⟨fun a ha => h.sub a (List.mem_of_mem_take ha), fun a ha d hd hh => ?_⟩
 obtain ⟨j, hj⟩ := List.getElem?_of_mem ha
 rw [List.getElem?_take] at hj
 split at hj
 ·rename_i hji
  have := (h.nxt j a hj).2 d hd hh
  rw [show X.take j = (X.take i).take j by rw [List.take_take, Nat.min_eq_left (by omega)]] at this
  exact List.mem_of_mem_take this
 ·cases hj
theorem sto0 (m : ModS) (l : List EvS) (ld : List Int) : StoA m l ld [] ⟨List.replicate (n0 l) 0, 0, ld, List.replicate (mrgF m).length mg0, []⟩ := ⟨rfl, rfl, rfl, KnL.nil m, rfl⟩
/-! ### Places -/
noncomputable def plL (l : List EvS) : List Int := (l.filter fun e => decide (0 < e.place)).map (·.place)
theorem withP_si {l s : List Int} {n : Int} (h : SI l s) : SI (l ++ [n]) (withP s n) := by
 unfold withP
 split
 ·rename_i hn;exact si_keep h hn
 ·rename_i hn
  refine ⟨List.pairwise_append.2 ⟨h.1.filter _, List.pairwise_cons.2 ⟨fun y hy => by simpa using (List.mem_filter.1 hy).2, h.1.filter _⟩, fun a ha b hb => ?_⟩, fun y => ?_⟩
  ·have ha : a < n := by simpa using (List.mem_filter.1 ha).2
   rcases List.mem_cons.1 hb with rfl|hb
   ·exact ha
   ·have hb : n < b := by simpa using (List.mem_filter.1 hb).2
    omega
  ·constructor
   ·intro h9
    rcases List.mem_append.1 h9 with h9|h9
    ·exact List.mem_append.2 (.inl ((h.2 y).1 (List.mem_filter.1 h9).1))
    ·rcases List.mem_cons.1 h9 with rfl|h9
     ·simp
     ·exact List.mem_append.2 (.inl ((h.2 y).1 (List.mem_filter.1 h9).1))
   ·intro h9
    rcases List.mem_append.1 h9 with h9|h9
    ·have hy := (h.2 y).2 h9
     have hne : y ≠ n := fun e => hn (e ▸ hy)
     by_cases hlt : y < n
     ·exact List.mem_append.2 (.inl (List.mem_filter.2 ⟨hy, by simpa using hlt⟩))
     ·exact List.mem_append.2 (.inr (List.mem_cons.2 (.inr (List.mem_filter.2 ⟨hy, by simp only [decide_eq_true_eq];omega⟩))))
    ·rw [List.mem_singleton.1 h9];simp
theorem plE_si {l : List EvS} : ∀ {P : List Int} {s : List Int}, SI P s → SI (P ++ plL l) (l.foldl plE s) := by
 induction l with
 | nil => intro P s h;simpa [plL] using h
 | cons e l ih =>
  intro P s h
  rw [List.foldl_cons]
  by_cases he : 0 < e.place
  ·have h1 := ih (withP_si (n := e.place) h)
   rw [show plE s e = withP s e.place from if_pos he]
   rw [show P ++ plL (e :: l) = P ++ [e.place] ++ plL l by simp [plL, he]]
   exact h1
  ·rw [show plE s e = s from if_neg he]
   rw [show P ++ plL (e :: l) = P ++ plL l by simp [plL, he]]
   exact ih h
theorem places_srt (l : List EvS) : l.foldl plE [] = srtD (plL l) := by
 have h : SI ([] ++ plL l) (l.foldl plE []) := plE_si ⟨List.Pairwise.nil, by simp⟩
 rw [List.nil_append] at h
 exact h.uniq (srtD_si _)
end Go.Proofs.YtmjllbjfkafhdaaGreatDoor
namespace Go.Proofs.YtmjllbjfkafhdaaGreatDoor
open Go Go.CF
set_option maxRecDepth 20000
/-! ### What is made -/
/-! ### Closed parts -/
/-! ### Compaction -/
structure StoS where
 base : NowS
 evs : List EvS
 now : NowS
noncomputable def inL (c : List Int) (l : List EvS) : List EvS := l.filter fun e => decide (HasC c e.rep e.num)
noncomputable def outL (c : List Int) (l : List EvS) : List EvS := l.filter fun e => decide (¬ HasC c e.rep e.num)
noncomputable def mrg1 (m : ModS) (k : List MgS) (e : EvS) : List MgS := (applyF m k e).2
noncomputable def cmp1 (m : ModS) (b : NowS) (e : EvS) : NowS := ⟨b.clock, max b.time e.time, addE m b.state e, mrg1 m b.merged e, plE b.places e⟩
noncomputable def cmpB (m : ModS) (b : NowS) (c : List Int) (l : List EvS) : NowS := { (inL c l).foldl (cmp1 m) b with clock := c }
noncomputable def compactF (m : ModS) (s : StoS) (c : List Int) : Int × StoS :=
 @ite _ (¬ (ValC c ∧ c.length = s.now.clock.length)) (Classical.propDecidable _) (1, s)
  (@ite _ (¬ (Ins s.base.clock c ∧ Ins c s.now.clock ∧ ∀ e ∈ s.evs, HasC c e.rep e.num → Ins e.past c)) (Classical.propDecidable _) (9, s)
   (0, ⟨cmpB m s.base c s.evs, outL c s.evs, { s.now with merged := (outL c s.evs).foldl (mrg1 m) (cmpB m s.base c s.evs).merged }⟩))
end Go.Proofs.YtmjllbjfkafhdaaGreatDoor
namespace Go.Proofs.YtmjllbjfkafhdaaGreatDoor
open Go Go.CF
set_option maxRecDepth 20000
structure SuitS (m : ModS) (ld : List Int) (l : List EvS) : Prop where
 e : SuitE m l
 ne : 0 < l.length
 ln : ld.length = strF m
 ld : ∀ x ∈ ld, -1000 ≤ x ∧ x ≤ 1000
 sm : ∀ a ∈ m.acts, ∀ p ∈ a.eff.delta, -1000 ≤ p.2 ∧ p.2 ≤ 1000
theorem SuitS.smd {m : ModS} {ld : List Int} {l : List EvS} (h : SuitS m ld l) : SmD m := fun a ha => ⟨(h.e.1.eff a ha).dl, h.sm a ha⟩
end Go.Proofs.YtmjllbjfkafhdaaGreatDoor
namespace Go.Proofs.YtmjllbjfkafhdaaGreatDoor
open Go Go.CF
set_option maxRecDepth 20000
noncomputable def stN (m : ModS) (n : Nat) (ld : List Int) (X : List EvS) : NowS := ⟨clkE n X, X.foldl (fun t e => max t e.time) 0, X.foldl (addE m) ld, X.foldl (mrg1 m) (List.replicate (mrgF m).length mg0), X.foldl plE []⟩
theorem deliver_st {m : ModS} {evl : List EvS} {w : NowS} {e : EvS} (h : (deliverF m evl w e).1 = 0) : (deliverF m evl w e).2 = ⟨cntF w.clock e, max w.time e.time, addE m w.state e, (applyF m w.merged e).2, plE w.places e⟩ := by
 unfold deliverF at h ⊢
 repeat' split
 all_goals first
  | rfl
  | (exfalso;simp_all;done)
theorem stN_snoc (m : ModS) (n : Nat) (ld : List Int) (X : List EvS) (e : EvS) : stN m n ld (X ++ [e]) = ⟨cntF (stN m n ld X).clock e, max (stN m n ld X).time e.time, addE m (stN m n ld X).state e, (applyF m (stN m n ld X).merged e).2, plE (stN m n ld X).places e⟩ := by
 simp only [stN, clkE, List.foldl_append, List.foldl_cons, List.foldl_nil, cntF, mrg1]
theorem plL_len (l : List EvS) : (plL l).length ≤ l.length := by unfold plL;rw [List.length_map];exact List.length_filter_le _ _
theorem foldE_len (m : ModS) (X : List EvS) : ∀ ld : List Int, (X.foldl (addE m) ld).length = ld.length := by
 induction X with
 | nil => exact fun _ => rfl
 | cons e X ih => intro ld;rw [List.foldl_cons, ih, addE_len]
theorem stN_ok {m : ModS} {l X : List EvS} {ld : List Int} (hs : SuitS m ld l) (hX : ∀ e ∈ X, e ∈ l) (hl : X.length ≤ 1000) : NowOK m (stN m (n0 l) ld X) := by
 obtain ⟨e, he⟩ := get_of (l := l) (i := 0) hs.ne
 have hr := n0_rng hs.e.2.2.1 (List.mem_of_getElem? he)
 refine ⟨clk_valC hs.e.2.2.1 hX hr, by simp only [stN, foldE_len];exact hs.ln, ?_, ?_⟩
 ·simp only [stN, places_srt];exact (srtD_si _).1
 ·simp only [stN, places_srt]
  have := srtD_len (plL X);have := plL_len X
  omega
theorem fill_sto {m : ModS} {l X : List EvS} {ld : List Int} (hs : SuitS m ld l) (hl : X.length ≤ 100) (hX : ExtO l X) : ∀ i, i ≤ X.length → StoA m l ld (X.take i) (stN m (n0 l) ld (X.take i)) ∧ ∀ e, X[i]? = some e → deliverF m (X.take i) (stN m (n0 l) ld (X.take i)) e = (0, stN m (n0 l) ld (X.take (i + 1))) := by
 have step : ∀ i e, X[i]? = some e → StoA m l ld (X.take i) (stN m (n0 l) ld (X.take i)) → deliverF m (X.take i) (stN m (n0 l) ld (X.take i)) e = (0, stN m (n0 l) ld (X.take (i + 1))) ∧ StoA m l ld (X.take (i + 1)) (stN m (n0 l) ld (X.take (i + 1))) := by
  intro i e he hst
  have hil := (List.getElem?_eq_some_iff.1 he).1
  have hel := hX.sub e (List.mem_of_getElem? he)
  obtain ⟨h1, h2⟩ := hX.nxt i e he
  obtain ⟨w', d1, d2⟩ := deliver_ok hs.e (by have := hs.e.2.1.1;omega) hs.smd hs.ld hst (by rw [List.length_take];omega) (hX.cau i) hel h1 h2
  have hsu : X.take (i + 1) = X.take i ++ [e] := by rw [List.take_add_one, he];rfl
  have hw : w' = stN m (n0 l) ld (X.take (i + 1)) := by
   have := deliver_st (m := m) (evl := X.take i) (w := stN m (n0 l) ld (X.take i)) (e := e) (by rw [d1])
   rw [d1] at this
   rw [hsu, stN_snoc]
   exact this
  rw [hw] at d1 d2
  rw [← hsu] at d2
  exact ⟨d1, d2⟩
 intro i
 induction i with
 | zero =>
  intro _
  have h0 : StoA m l ld (X.take 0) (stN m (n0 l) ld (X.take 0)) := sto0 m l ld
  exact ⟨h0, fun e he => (step 0 e he h0).1⟩
 | succ i ih =>
  intro hi
  obtain ⟨e, he⟩ := get_of (l := X) (i := i) (by omega)
  have h1 := (step i e he (ih (by omega)).1).2
  exact ⟨h1, fun d hd => (step (i + 1) d hd h1).1⟩
theorem insS_ld {ld : List Int} (h : ∀ x ∈ ld, -1000 ≤ x ∧ x ≤ 1000) : insS ld := fun x hx => by have := h x hx;omega
end Go.Proofs.YtmjllbjfkafhdaaGreatDoor
