/- Part 12 of the ground of this proof: what its texts say of the model, the program and the plain data; conditions: those that are named. -/
import Derived.Test.YtajenkpjcbaadaaGreatC11
namespace Go.Proofs.YtajenkpjcbaadaaGreat
open Go Go.CF
set_option maxRecDepth 20000
theorem ddeliver_a (b : Nat) (vc : Value) (mb : Nat) (c : List Int) (H : List (List Int × EvS)) (e : EvS) (x : Int) (h0' : 0 ≤ e.rep) (hx : c[e.rep.toNat]? = some x) : CallA Tryz.prog 88 [pm b, evA' e] [bufB b vc mb, clkR vc c, heldR mb H] fun r own => r = .tup [] ∧ own = [bufB b vc mb, clkR vc (cntF c e), heldR mb (delL H [e.rep, e.num])] := by
 obtain ⟨q, hq⟩ : ∃ q : Nat, e.rep = q := ⟨e.rep.toNat, by omega⟩
 have hx' : c[q]? = some x := by rw [hq, Int.toNat_natCast] at hx;exact hx
 have hql := (List.getElem?_eq_some_iff.1 hx').1
 have h1 := dname_p e
 have hcn : cntF c e = c.set q (max x e.num) := by rw [cntF, hq, Int.toNat_natCast, hx', Option.getD_some]
 rw [hcn]
 refine CallA.of pg ord88 Tryz.func88 rfl Tryz.ntmps88 Tryz.results88 rfl fun h0 G0 O0 => ?_
 repeat' (first|refine Sp.h ?_|refine Lk.r rfl ?_|refine Rf.mk rfl ?_|refine OpK.r rfl ?_|refine All.mk fun _=>?_|refine xU ?_|refine xT ?_|(apply Ix.r;(focus assumption);(focus omega))|refine xJ ?_|refine Ch.l ⟨rfl, rfl⟩ ?_|refine xV ?_|refine xN ?_|refine Up.r rfl ?_|refine xK ?_|(apply Kf.mk;(focus kernel_rfl))|refine xM ?_|refine xD ?_|(apply Cl.p (h1);focus (repeat' constructor);done))
 exact ⟨_, [bufB b vc mb, clkR vc (c.set q (max x e.num)), heldR mb (delL H [e.rep, e.num])], .tup (.z), rfl, rfl⟩
theorem delL_sub {β : Type} (k : List Int) : ∀ H : List (List Int × β), (delL H k).Sublist H
 | [] => .slnil
 | p :: H => by
  simp only [delL]
  split
  ·exact List.sublist_cons_self _ _
  ·exact (delL_sub k H).cons_cons _
theorem delL_len {β : Type} {k : List Int} : ∀ {H : List (List Int × β)}, (∃ p ∈ H, p.1 = k) → (delL H k).length + 1 = H.length
 | [], h => by obtain ⟨p, hp, _⟩ := h;cases hp
 | p :: H, h => by
  simp only [delL]
  split
  ·simp
  ·rename_i hne
   obtain ⟨r, hr, hk⟩ := h
   have : ∃ p ∈ H, p.1 = k := by
    rcases List.mem_cons.1 hr with rfl|hr
    ·exact absurd hk hne
    ·exact ⟨r, hr, hk⟩
   have := delL_len this
   simp;omega
theorem HldOK.del {N : Nat} {H : List (List Int × EvS)} (h : HldOK N H) (k : List Int) : HldOK N (delL H k) := by
 have hs := delL_sub k H
 refine ⟨fun p hp => h.rep p (hs.mem hp), fun p hp => h.key p (hs.mem hp), fun p hp => h.fm p (hs.mem hp), Nat.le_trans hs.length_le h.len, ?_⟩
 exact uniq_pair.2 (List.Pairwise.sublist (hs.map _) (uniq_pair.1 h.nd))
noncomputable def rdyB (c : List Int) (e : EvS) : Bool := decide (RdyE c e)
noncomputable def stlF : Nat → List Int → List (List Int × EvS) → List EvS → List EvS × List Int × List (List Int × EvS)
 | 0, c, H, out => (out, c, H)
 | n + 1, c, H, out => match (ordE (H.map (·.2)))[idxN (rdyB c) (ordE (H.map (·.2)))]? with
  | none => (out, c, H)
  | some e => stlF n (cntF c e) (delL H [e.rep, e.num]) (out ++ [e])
set_option maxHeartbeats 2000000 in
theorem dsettle_a (b : Nat) (vc : Value) (mb : Nat) (c : List Int) (H : List (List Int × EvS)) (h : HldOK c.length H) (hc : c.length ≤ 10) : CallA Tryz.prog 90 [pm b] [bufB b vc mb, clkR vc c, heldR mb H] fun r own => ∃ v, r = .ow v ∧ own = [arrR v 40 13 (stlF (H.length + 1) c H []).1 evC, bufB b vc mb, clkR vc (stlF (H.length + 1) c H []).2.1, heldR mb (stlF (H.length + 1) c H []).2.2] := by
 obtain ⟨res, hres⟩ : ∃ res, res = stlF (H.length + 1) c H [] := ⟨_, rfl⟩
 rw [← hres]
 have hH := h.len
 refine CallA.of pg ord90 Tryz.func90 rfl Tryz.ntmps90 Tryz.results90 rfl fun h0 G0 O0 => ?_
 repeat' (first|refine Sp.h ?_|refine Lk.r rfl ?_|refine Rf.mk rfl ?_|fail)
 refine CA.nilOwn 3 40 13 evC rfl fun v0 => ?_
 refine CA.loop (fun x : Nat × List Int × List (List Int × EvS) × List EvS × Value => ⟨[(0, pm b), (3, .ow x.2.2.2.2)], [arrR x.2.2.2.2 40 13 x.2.2.2.1 evC, bufB b vc mb, clkR vc x.2.1, heldR mb x.2.2.1]⟩)
  (fun x => HldOK c.length x.2.2.1 ∧ x.2.1.length = c.length ∧ x.2.2.1.length + 1 = x.1 ∧ x.2.2.2.1.length + x.2.2.1.length = H.length ∧ res = stlF x.1 x.2.1 x.2.2.1 x.2.2.2.1) (fun x => x.1) (H.length + 1, c, H, [], v0) xE ⟨h, rfl, rfl, by simp, hres⟩ ?_
 rintro ⟨n, d, K, out, v⟩ ⟨hK, hd, hn, hlen, hr⟩
 simp only at hK hd hn hlen hr
 simp only
 have hl := dlist_a b vc mb d K hK
 have hix := dindex_a b vc mb d (by omega) (ordE (K.map (·.2)))
 repeat' (first|refine Sp.h ?_|refine Lk.r rfl ?_|refine Rf.mk rfl ?_|fail)
 refine xW (hl) ?_
 rintro _ _ ⟨rfl, rfl⟩
 repeat' (first|refine Sp.h ?_|refine Lk.r rfl ?_|refine Rf.mk rfl ?_|fail)
 refine xW (hix) ?_
 rintro _ _ ⟨rfl, rfl⟩
 subst hn
 by_cases hi : idxN (rdyB d) (ordE (K.map (·.2))) < (ordE (K.map (·.2))).length
 ·have hI : idxI (fun e => decide (RdyE d e)) (ordE (K.map (·.2))) = (idxN (rdyB d) (ordE (K.map (·.2))) : Nat) := if_pos hi
  rw [hI]
  obtain ⟨e, he⟩ := get_of hi
  have hem : e ∈ K.map (·.2) := (ordE_perm _).mem_iff.2 (List.mem_of_getElem? he)
  obtain ⟨p, hp, rfl⟩ := List.mem_map.1 hem
  have hrp := hK.rep p hp
  obtain ⟨x, hx⟩ := get_of (l := d) (i := p.2.rep.toNat) (by omega)
  have hdv := ddeliver_a b vc mb d K p.2 x hrp.1 hx
  have hdl := delL_len (k := [p.2.rep, p.2.num]) ⟨p, hp, hK.key p hp⟩
  have hr2 : res = stlF K.length (cntF d p.2) (delL K [p.2.rep, p.2.num]) (out ++ [p.2]) := by
   rw [hr];simp only [stlF, he]
  repeat' (first|refine Sp.h ?_|refine Lk.r rfl ?_|refine Rf.mk rfl ?_|refine xB ?_|refine xI ?_|refine Ch.l ⟨rfl, rfl⟩ ?_|fail)
  refine xW (hdv) ?_
  rintro _ _ ⟨rfl, rfl⟩
  repeat' (first|refine Sp.h ?_|refine Lk.r rfl ?_|refine Rf.mk rfl ?_|refine xP ?_|refine All.mk fun _=>?_|refine xU ?_|refine xI ?_|refine Ce.r ?_|refine Ch.l ⟨rfl, rfl⟩ ?_|(apply Fk.r;focus repeat' first|infer_instance|constructor)|refine Rf.mk ⟨rfl, rfl⟩ ?_|refine Rf.mk ⟨rfl, rfl, rfl⟩ ?_|(apply Mp.lit;(focus repeat (first|exact MpL.nil|(apply MpL.cons;(focus rfl))|(apply MpL.inv;(focus repeat constructor);(focus infer_instance)))))|fail)
  refine PA.lp (K.length, cntF d p.2, delL K [p.2.rep, p.2.num], out ++ [p.2], _) xE ⟨⟨hK.del _, by simp only [cntF, List.length_set];exact hd, hdl, ?_, hr2⟩, ?_⟩
  ·simp only [List.length_append, List.length_cons, List.length_nil]
   omega
  ·simp only
   omega
 ·have hI : idxI (fun e => decide (RdyE d e)) (ordE (K.map (·.2))) = -1 := if_neg hi
  rw [hI]
  have hr2 : res = (out, d, K) := by
   rw [hr];simp only [stlF, List.getElem?_eq_none (Nat.le_of_not_lt hi)]
  rw [hr2]
  repeat' (first|refine Sp.h ?_|refine Lk.r rfl ?_|refine Rf.mk rfl ?_|refine xA ?_|refine xN ?_|fail)
  exact ⟨_, [arrR v 40 13 out evC, bufB b vc mb, clkR vc d, heldR mb K], .one (.same (.z)), _, rfl, rfl⟩
end Go.Proofs.YtajenkpjcbaadaaGreat
namespace Go.Proofs.YtajenkpjcbaadaaGreat
open Go Go.CF
set_option maxRecDepth 20000
noncomputable def addB (c : List Int) (H : List (List Int × EvS)) (e : EvS) : Int × List EvS × List Int × List (List Int × EvS) :=
 if ¬ FormedE e ∨ e.past.length ≠ c.length then (1, [], c, H)
 else if (lookL H [e.rep, e.num]).isSome = true ∨ HasC c e.rep e.num then (6, [], c, H)
 else if RdyE c e then (0, e :: (stlF ((delL H [e.rep, e.num]).length + 1) (cntF c e) (delL H [e.rep, e.num]) []).1, (stlF ((delL H [e.rep, e.num]).length + 1) (cntF c e) (delL H [e.rep, e.num]) []).2)
 else if 256 ≤ H.length then (8, [], c, H)
 else (0, [], c, updL H [e.rep, e.num] e)
theorem stlF_len : ∀ (n : Nat) (c : List Int) (H : List (List Int × EvS)) (out : List EvS), (stlF n c H out).1.length ≤ out.length + n
 | 0, _, _, _ => Nat.le_refl _
 | n + 1, c, H, out => by
  simp only [stlF]
  split
  ·exact Nat.le_add_right _ _
  ·have := stlF_len n (cntF c ‹_›) (delL H [(‹_› : EvS).rep, (‹_› : EvS).num]) (out ++ [‹_›])
   simp only [List.length_append, List.length_cons, List.length_nil] at this
   omega
theorem mpl_id (f : EvS → List AV) : ∀ l : List EvS, MpL f id l (l.map f)
 | [] => .nil
 | _ :: l => .cons rfl (mpl_id f l)
abbrev AddN (b : Nat) (vc : Value) (mb : Nat) (c : List Int) (H : List (List Int × EvS)) (k : Int) : AV → List Res → Prop := fun r own => r = .tup [nl0, it k] ∧ own = [bufB b vc mb, clkR vc c, heldR mb H]
theorem addN_x {b : Nat} {vc : Value} {mb : Nat} {c : List Int} {H : List (List Int × EvS)} {k : Int} {xs : List AV} {own : List Res} (h : CallA Tryz.prog 42 xs own (AddN b vc mb c H k)) :
  CallA Tryz.prog 42 xs own fun r own => r = .tup [evs [], it k] ∧ own = [bufB b vc mb, clkR vc c, heldR mb H] :=
 CallA.fxr h (by rintro _ _ ⟨rfl, rfl⟩;exact ⟨_, _, .tup (.kn (.k .nil)) .nil, rfl, rfl⟩)
set_option maxHeartbeats 8000000 in
theorem dadd_a (b : Nat) (vc : Value) (mb : Nat) (c : List Int) (H : List (List Int × EvS)) (e : EvS) (h : HldOK c.length H) (hc : c.length ≤ 10) : CallA Tryz.prog 42 [pm b, evA' e] [bufB b vc mb, clkR vc c, heldR mb H] fun r own => r = .tup [evs (addB c H e).2.1, it (addB c H e).1] ∧ own = [bufB b vc mb, clkR vc (addB c H e).2.2.1, heldR mb (addB c H e).2.2.2] := by
 have h1 := dname_p e
 have h2 := formed_p e
 have h3 := hasC_p c e.rep e.num
 have h4 := dready_p c (.map (some mb)) e
 have hH := h.len
 by_cases k1 : ¬ FormedE e ∨ e.past.length ≠ c.length
 ·have hr : addB c H e = (1, [], c, H) := if_pos k1
  rw [hr]
  refine addN_x ?_
  by_cases k0 : FormedE e
  ·have k2 : ¬ (e.past.length : Int) = (c.length : Int) := by
    rcases k1 with k1|k1
    ·exact absurd k0 k1
    ·omega
   cases hlk : lookL H [e.rep, e.num]
   all_goals refine CallA.of pg ord42 Tryz.func42 rfl Tryz.ntmps42 Tryz.results42 rfl fun h0 G0 O0 => ?_
   all_goals repeat' (first|refine Sp.h ?_|refine Lk.r rfl ?_|refine Rf.mk rfl ?_|refine xA ?_|refine xB ?_|refine OpK.r rfl ?_|refine Im.mk fun _=>?_|refine All.mk fun _=>?_|refine xU ?_|refine xT ?_|refine Ch.l ⟨rfl, rfl⟩ ?_|(apply SetAsk.r;focus repeat' constructor)|refine xN ?_|refine xK ?_|(apply Kf.mk;(focus kernel_rfl))|refine xM ?_|(apply Zx.agg;(focus rfl);(focus rfl);(focus repeat constructor))|(apply LkM.s;(focus first|assumption|rfl))|(apply LkM.n;(focus first|assumption|rfl))|refine xD ?_|exact trivial|apply RA'.both|(apply Cl.p (h1);focus (repeat' constructor);done)|(apply Cl.p (h2);focus (repeat' constructor);done)|(apply Cl.p (h2);focus (repeat' constructor);done)|(apply Cl.lend (h3);focus (repeat' constructor);done)|(apply Cl.lend (h4);focus (repeat' constructor);done)|(apply Cl.lend (h4);focus (repeat' constructor);done))
   all_goals exact ⟨_, [bufB b vc mb, clkR vc c, heldR mb H], .tup (.same (.same (.z))), rfl, rfl⟩
  ·cases hlk : lookL H [e.rep, e.num]
   all_goals refine CallA.of pg ord42 Tryz.func42 rfl Tryz.ntmps42 Tryz.results42 rfl fun h0 G0 O0 => ?_
   all_goals repeat' (first|refine Sp.h ?_|refine Lk.r rfl ?_|refine Rf.mk rfl ?_|refine xB ?_|refine OpK.r rfl ?_|refine All.mk fun _=>?_|refine xT ?_|refine Ch.l ⟨rfl, rfl⟩ ?_|(apply SetAsk.r;focus repeat' constructor)|refine xN ?_|refine xK ?_|(apply Kf.mk;(focus kernel_rfl))|refine xM ?_|(apply Zx.agg;(focus rfl);(focus rfl);(focus repeat constructor))|(apply LkM.s;(focus first|assumption|rfl))|(apply LkM.n;(focus first|assumption|rfl))|refine xD ?_|exact trivial|apply RA'.both|(apply Cl.p (h1);focus (repeat' constructor);done)|(apply Cl.p (h2);focus (repeat' constructor);done)|(apply Cl.p (h2);focus (repeat' constructor);done)|(apply Cl.lend (h3);focus (repeat' constructor);done)|(apply Cl.lend (h4);focus (repeat' constructor);done)|(apply Cl.lend (h4);focus (repeat' constructor);done))
   all_goals exact ⟨_, [bufB b vc mb, clkR vc c, heldR mb H], .tup (.same (.same (.z))), rfl, rfl⟩
 have k0 : FormedE e := Decidable.not_not.1 fun h9 => k1 (.inl h9)
 have k2 : e.past.length = c.length := Decidable.not_not.1 fun h9 => k1 (.inr h9)
 have k3 : (e.past.length : Int) = (c.length : Int) := by omega
 by_cases q1 : (lookL H [e.rep, e.num]).isSome = true ∨ HasC c e.rep e.num
 ·have hr : addB c H e = (6, [], c, H) := by rw [addB, if_neg k1, if_pos q1]
  rw [hr]
  refine addN_x ?_
  cases hlk : lookL H [e.rep, e.num] with
  | none =>
   have q2 : HasC c e.rep e.num := by
    rcases q1 with q1|q1
    ·rw [hlk] at q1;cases q1
    ·exact q1
   refine CallA.of pg ord42 Tryz.func42 rfl Tryz.ntmps42 Tryz.results42 rfl fun h0 G0 O0 => ?_
   repeat' (first|refine Sp.h ?_|refine Lk.r rfl ?_|refine Rf.mk rfl ?_|refine xA ?_|refine OpK.r rfl ?_|refine Im.mk fun _=>?_|refine All.mk fun _=>?_|refine xU ?_|refine xT ?_|refine Ch.l ⟨rfl, rfl⟩ ?_|(apply SetAsk.r;focus repeat' constructor)|refine xN ?_|refine xK ?_|(apply Kf.mk;(focus kernel_rfl))|refine xM ?_|(apply Zx.agg;(focus rfl);(focus rfl);(focus repeat constructor))|(apply LkM.n;(focus first|assumption|rfl))|refine xD ?_|exact trivial|apply RA'.both|(apply Cl.p (h1);(focus ((repeat' (first|exact Lend.nil|apply Lend.keep|(apply Lend.lend;(focus repeat constructor);(focus first|omega|(simp;omega)))|fail));done)))|(apply Cl.p (h2);(focus ((repeat' (first|exact Lend.nil|apply Lend.keep|(apply Lend.lend;(focus repeat constructor);(focus first|omega|(simp;omega)))|fail));done)))|(apply Cl.p (h2);(focus ((repeat' (first|exact Lend.nil|apply Lend.keep|(apply Lend.lend;(focus repeat constructor);(focus first|omega|(simp;omega)))|fail));done)))|(apply Cl.lend (h3);(focus ((repeat' (first|exact Lend.nil|apply Lend.keep|(apply Lend.lend;(focus repeat constructor);(focus first|omega|(simp;omega)))|fail));done)))|(apply Cl.lend (h4);(focus ((repeat' (first|exact Lend.nil|apply Lend.keep|(apply Lend.lend;(focus repeat constructor);(focus first|omega|(simp;omega)))|fail));done)))|(apply Cl.lend (h4);(focus ((repeat' (first|exact Lend.nil|apply Lend.keep|(apply Lend.lend;(focus repeat constructor);(focus first|omega|(simp;omega)))|fail));done))))
   all_goals exact ⟨_, [bufB b vc mb, clkR vc c, heldR mb H], .tup (.same (.same (.z))), rfl, rfl⟩
  | some v =>
   refine CallA.of pg ord42 Tryz.func42 rfl Tryz.ntmps42 Tryz.results42 rfl fun h0 G0 O0 => ?_
   repeat' (first|refine Sp.h ?_|refine Lk.r rfl ?_|refine Rf.mk rfl ?_|refine xA ?_|refine OpK.r rfl ?_|refine Im.mk fun _=>?_|refine All.mk fun _=>?_|refine xU ?_|refine xT ?_|refine Ch.l ⟨rfl, rfl⟩ ?_|(apply SetAsk.r;focus repeat' constructor)|refine xN ?_|refine xK ?_|(apply Kf.mk;(focus kernel_rfl))|refine xM ?_|(apply LkM.s;(focus first|assumption|rfl))|refine xD ?_|exact trivial|apply RA'.both|(apply Cl.p (h1);focus (repeat' constructor);done)|(apply Cl.p (h2);focus (repeat' constructor);done)|(apply Cl.p (h2);focus (repeat' constructor);done)|(apply Cl.lend (h3);focus (repeat' constructor);done)|(apply Cl.lend (h4);focus (repeat' constructor);done)|(apply Cl.lend (h4);focus (repeat' constructor);done))
   all_goals exact ⟨_, [bufB b vc mb, clkR vc c, heldR mb H], .tup (.same (.same (.z))), rfl, rfl⟩
 have q2 : ¬ HasC c e.rep e.num := fun h9 => q1 (.inr h9)
 have hlk : lookL H [e.rep, e.num] = none := by
  cases h9 : lookL H [e.rep, e.num] with
  | none => rfl
  | some v => exact absurd (.inl (by rw [h9];rfl)) q1
 have hcl := dclone_p e (by have := k0.1.2;omega)
 by_cases q3 : RdyE c e
 ·obtain ⟨S, hS⟩ : ∃ S, S = stlF ((delL H [e.rep, e.num]).length + 1) (cntF c e) (delL H [e.rep, e.num]) [] := ⟨_, rfl⟩
  have hr : addB c H e = (0, e :: S.1, S.2) := by rw [addB, if_neg k1, if_neg q1, if_pos q3, hS]
  rw [hr]
  obtain ⟨y, hy, _⟩ := k0.2.2.1
  obtain ⟨x, hx⟩ := get_of (l := c) (i := e.rep.toNat) (by rw [← k2];exact (List.getElem?_eq_some_iff.1 hy).1)
  have hd := ddeliver_a b vc mb c H e x k0.2.1 hx
  have hcl2 : (cntF c e).length = c.length := by simp only [cntF, List.length_set]
  have hs := dsettle_a b vc mb (cntF c e) (delL H [e.rep, e.num]) (by rw [hcl2];exact h.del _) (by omega)
  rw [← hS] at hs
  have hSl : S.1.length ≤ 1000 := by
   have h9 := stlF_len ((delL H [e.rep, e.num]).length + 1) (cntF c e) (delL H [e.rep, e.num]) []
   rw [← hS] at h9
   have h8 := (delL_sub [e.rep, e.num] H).length_le
   simp only [List.length_nil] at h9
   omega
  refine CallA.fxr (K := fun r own => ∃ v, r = .tup [.ow v, it 0] ∧ own = [arrR v 40 13 (e :: S.1) evC, bufB b vc mb, clkR vc S.2.1, heldR mb S.2.2]) ?_ (by rintro _ _ ⟨v, rfl, rfl⟩;exact ⟨_, _, .tup (.s1 .here (by simp;omega) (.k .nil)) .nil, rfl, rfl⟩)
  refine CallA.of pg ord42 Tryz.func42 rfl Tryz.ntmps42 Tryz.results42 rfl fun h0 G0 O0 => ?_
  repeat' (first|refine Sp.h ?_|refine Lk.r rfl ?_|refine Rf.mk rfl ?_|refine xA ?_|refine xB ?_|refine OpK.r rfl ?_|refine Im.mk fun _=>?_|refine All.mk fun _=>?_|refine xU ?_|refine xT ?_|refine Ch.l ⟨rfl, rfl⟩ ?_|(apply SetAsk.r;focus repeat' constructor)|refine xN ?_|refine xK ?_|(apply Kf.mk;(focus kernel_rfl))|refine xM ?_|(apply Zx.agg;(focus rfl);(focus rfl);(focus repeat constructor))|(apply LkM.n;(focus first|assumption|rfl))|refine xD ?_|exact trivial|apply RA'.both|(apply Cl.p (h1);(focus ((repeat' (first|exact Lend.nil|apply Lend.keep|(apply Lend.lend;(focus repeat constructor);(focus first|omega|(simp;omega)))|(apply Lend.cell;(focus repeat constructor))|fail));done)))|(apply Cl.p (h2);(focus ((repeat' (first|exact Lend.nil|apply Lend.keep|(apply Lend.lend;(focus repeat constructor);(focus first|omega|(simp;omega)))|(apply Lend.cell;(focus repeat constructor))|fail));done)))|(apply Cl.p (hcl);(focus ((repeat' (first|exact Lend.nil|apply Lend.keep|(apply Lend.lend;(focus repeat constructor);(focus first|omega|(simp;omega)))|(apply Lend.cell;(focus repeat constructor))|fail));done)))|(apply Cl.lend (h3);(focus ((repeat' (first|exact Lend.nil|apply Lend.keep|(apply Lend.lend;(focus repeat constructor);(focus first|omega|(simp;omega)))|(apply Lend.cell;(focus repeat constructor))|fail));done)))|(apply Cl.lend (h4);(focus ((repeat' (first|exact Lend.nil|apply Lend.keep|(apply Lend.lend;(focus repeat constructor);(focus first|omega|(simp;omega)))|(apply Lend.cell;(focus repeat constructor))|fail));done)))|(apply Cl.lend (h4);(focus ((repeat' (first|exact Lend.nil|apply Lend.keep|(apply Lend.lend;(focus repeat constructor);(focus first|omega|(simp;omega)))|(apply Lend.cell;(focus repeat constructor))|fail));done))))
  all_goals refine xW (hd) ?_
  all_goals rintro _ _ ⟨rfl, rfl⟩
  all_goals repeat' (first|refine Sp.h ?_|refine Lk.r rfl ?_|refine Rf.mk rfl ?_|refine All.mk fun _=>?_|refine xT ?_|refine Ch.l ⟨rfl, rfl⟩ ?_|(apply Fk.r;focus repeat' first|infer_instance|constructor)|refine Rf.mk ⟨rfl, rfl, rfl⟩ ?_|(apply Cl.p (hcl);focus repeat' constructor))
  all_goals refine xW (hs) ?_
  all_goals rintro _ _ ⟨v, rfl, rfl⟩
  all_goals repeat' (first|refine Sp.h ?_|refine Lk.r rfl ?_|refine Rf.mk rfl ?_|refine xU ?_|refine Ce.r ?_|refine Rf.mk ⟨rfl, rfl⟩ ?_|(apply Mp.lit;(focus repeat (first|exact MpL.nil|(apply MpL.cons;(focus rfl))|(apply MpL.inv;(focus repeat constructor);(focus infer_instance)))))|fail)
  any_goals exact mpl_id evC S.1
  all_goals refine ⟨by rw [List.length_map];simp [chunk];omega, ?_⟩
  all_goals (repeat' (first|(show CA _ _ Code.ret _ _;apply Stopped.out)|refine Sp.h ?_|refine Lk.r rfl ?_|refine All.mk fun _=>?_|fail));any_goals apply Stopped.mk
  all_goals refine CA.retype (by repeat constructor) (e :: S.1) evC (by simp [chunk];rfl) ?_
  all_goals repeat' (first|refine Sp.h ?_|refine Lk.r rfl ?_|refine xN ?_|fail)
  all_goals exact ⟨_, [arrR _ 40 13 (e :: S.1) evC, bufB b vc mb, clkR vc S.2.1, heldR mb S.2.2], .tup (.same (.same (.z))), _, rfl, rfl⟩
 by_cases q4 : 256 ≤ H.length
 ·have hr : addB c H e = (8, [], c, H) := by rw [addB, if_neg k1, if_neg q1, if_neg q3, if_pos q4]
  rw [hr]
  refine addN_x ?_
  refine CallA.of pg ord42 Tryz.func42 rfl Tryz.ntmps42 Tryz.results42 rfl fun h0 G0 O0 => ?_
  repeat' (first|refine Sp.h ?_|refine Lk.r rfl ?_|refine Rf.mk rfl ?_|refine xA ?_|refine xB ?_|refine OpK.r rfl ?_|refine Im.mk fun _=>?_|refine All.mk fun _=>?_|refine xU ?_|refine xT ?_|refine Ch.l ⟨rfl, rfl⟩ ?_|(apply SetAsk.r;focus repeat' constructor)|refine xN ?_|refine xK ?_|(apply Kf.mk;(focus kernel_rfl))|refine xM ?_|(apply Zx.agg;(focus rfl);(focus rfl);(focus repeat constructor))|(apply LkM.n;(focus first|assumption|rfl))|refine xD ?_|exact trivial|apply RA'.both|(apply Cl.p (h1);(focus ((repeat' (first|exact Lend.nil|apply Lend.keep|(apply Lend.lend;(focus repeat constructor);(focus first|omega|(simp;omega)))|(apply Lend.cell;(focus repeat constructor))|fail));done)))|(apply Cl.p (h2);(focus ((repeat' (first|exact Lend.nil|apply Lend.keep|(apply Lend.lend;(focus repeat constructor);(focus first|omega|(simp;omega)))|(apply Lend.cell;(focus repeat constructor))|fail));done)))|(apply Cl.p (h2);(focus ((repeat' (first|exact Lend.nil|apply Lend.keep|(apply Lend.lend;(focus repeat constructor);(focus first|omega|(simp;omega)))|(apply Lend.cell;(focus repeat constructor))|fail));done)))|(apply Cl.lend (h3);(focus ((repeat' (first|exact Lend.nil|apply Lend.keep|(apply Lend.lend;(focus repeat constructor);(focus first|omega|(simp;omega)))|(apply Lend.cell;(focus repeat constructor))|fail));done)))|(apply Cl.lend (h4);(focus ((repeat' (first|exact Lend.nil|apply Lend.keep|(apply Lend.lend;(focus repeat constructor);(focus first|omega|(simp;omega)))|(apply Lend.cell;(focus repeat constructor))|fail));done)))|(apply Cl.lend (h4);(focus ((repeat' (first|exact Lend.nil|apply Lend.keep|(apply Lend.lend;(focus repeat constructor);(focus first|omega|(simp;omega)))|(apply Lend.cell;(focus repeat constructor))|fail));done))))
  all_goals exact ⟨_, [bufB b vc mb, clkR vc c, heldR mb H], .tup (.same (.same (.z))), rfl, rfl⟩
 ·have hr : addB c H e = (0, [], c, updL H [e.rep, e.num] e) := by rw [addB, if_neg k1, if_neg q1, if_neg q3, if_neg q4]
  rw [hr]
  refine addN_x ?_
  refine CallA.of pg ord42 Tryz.func42 rfl Tryz.ntmps42 Tryz.results42 rfl fun h0 G0 O0 => ?_
  repeat' (first|refine Sp.h ?_|refine Lk.r rfl ?_|refine Rf.mk rfl ?_|refine xA ?_|refine xB ?_|refine OpK.r rfl ?_|refine Im.mk fun _=>?_|refine All.mk fun _=>?_|refine xU ?_|refine xT ?_|refine Ch.l ⟨rfl, rfl⟩ ?_|(apply SetAsk.r;focus repeat' constructor)|refine xN ?_|refine xK ?_|(apply Kf.mk;(focus kernel_rfl))|refine xM ?_|refine UpV.r rfl ?_|(apply Zx.agg;(focus rfl);(focus rfl);(focus repeat constructor))|(apply LkM.n;(focus first|assumption|rfl))|refine xD ?_|exact trivial|apply RA'.both|(apply Cl.p (h1);(focus ((repeat' (first|exact Lend.nil|apply Lend.keep|(apply Lend.lend;(focus repeat constructor);(focus first|omega|(simp;omega)))|(apply Lend.cell;(focus repeat constructor))|fail));done)))|(apply Cl.p (h2);(focus ((repeat' (first|exact Lend.nil|apply Lend.keep|(apply Lend.lend;(focus repeat constructor);(focus first|omega|(simp;omega)))|(apply Lend.cell;(focus repeat constructor))|fail));done)))|(apply Cl.p (hcl);(focus ((repeat' (first|exact Lend.nil|apply Lend.keep|(apply Lend.lend;(focus repeat constructor);(focus first|omega|(simp;omega)))|(apply Lend.cell;(focus repeat constructor))|fail));done)))|(apply Cl.lend (h3);(focus ((repeat' (first|exact Lend.nil|apply Lend.keep|(apply Lend.lend;(focus repeat constructor);(focus first|omega|(simp;omega)))|(apply Lend.cell;(focus repeat constructor))|fail));done)))|(apply Cl.lend (h4);(focus ((repeat' (first|exact Lend.nil|apply Lend.keep|(apply Lend.lend;(focus repeat constructor);(focus first|omega|(simp;omega)))|(apply Lend.cell;(focus repeat constructor))|fail));done)))|(apply Cl.lend (h4);(focus ((repeat' (first|exact Lend.nil|apply Lend.keep|(apply Lend.lend;(focus repeat constructor);(focus first|omega|(simp;omega)))|(apply Lend.cell;(focus repeat constructor))|fail));done))))
  all_goals exact ⟨_, [bufB b vc mb, clkR vc c, heldR mb (updL H [e.rep, e.num] e)], .tup (.same (.same (.z))), rfl, rfl⟩
end Go.Proofs.YtajenkpjcbaadaaGreat
namespace Go.Proofs.YtajenkpjcbaadaaGreat
open Go Go.CF
set_option maxRecDepth 20000
theorem estrict_p (t : TblS) : CallP Tryz.prog 56 [.agg (tblC t)] (bl (decide (isStrict t.kind))) := by
 refine CallA.of pg ord56 Tryz.func56 rfl Tryz.ntmps56 Tryz.results56 rfl fun h0 G0 O0 => ?_
 repeat' (first|refine Sp.h ?_|refine Lk.r rfl ?_|refine Rf.mk rfl ?_|refine xA ?_|refine xB ?_|(refine Bd.mk ?_ ?_ <;> intro _)|refine All.mk fun _=>?_|refine xT ?_|refine xN ?_|fail)
 all_goals exact Fin.p rfl (vb (by first|exact (decide_eq_true (by unfold isStrict;omega)).symm|exact (decide_eq_false (by unfold isStrict;omega)).symm|exact decide_eq_decide.2 (by unfold isStrict;omega)))
theorem esize_p (m : ModS) (t : TblS) (h : ColOK m.sorts t.cols) : CallP Tryz.prog 57 [mdl m, .agg (tblC t)] (it (szF m t : Nat)) := by
 have h1 := sz_fit (m := m) h
 refine CallA.of pg ord57 Tryz.func57 rfl Tryz.ntmps57 Tryz.results57 rfl fun h0 G0 O0 => ?_
 repeat' (first|refine Sp.h ?_|refine Lk.r rfl ?_|refine Rf.mk rfl ?_|refine Im.mk fun _=>?_|refine All.mk fun _=>?_|refine xT ?_|fail)
 rename_i b2 b3 _
 refine CA.loop (fun k : Nat => ⟨[(2, pm b2), (5, it (prodF m.sorts (t.cols.take k))), (9, ints t.cols), (10, it (t.cols.length : Nat)), (11, it k)], [mR b2 m]⟩) (fun k => k ≤ t.cols.length) (fun k => t.cols.length - k) 0 xE (Nat.zero_le _) ?_
 intro k hk
 by_cases hkn : k < t.cols.length
 ·obtain ⟨x, hx⟩ := get_of hkn
  obtain ⟨j, rfl, y, hy, hy1, hy2⟩ := col_get h hx
  have hb := prod_succ hx (show m.sorts[((j : Int)).toNat]? = some y by simpa using hy)
  have hp := prod_fit h k
  have hp2 := prod_fit h (k + 1)
  rw [hb] at hp2
  have hj := (List.getElem?_eq_some_iff.1 hy).1
  repeat' (first|refine Sp.h ?_|refine Lk.r rfl ?_|refine Rf.mk rfl ?_|refine xA ?_|refine xP ?_|refine xT ?_|refine xI ?_|refine xO ?_|fail)
  rw [← hb]
  exact PA.lp (k + 1) xE ⟨hkn, by omega⟩
 ·have hke : k = t.cols.length := by omega
  subst hke
  simp only [List.take_length]
  rw [h1.1]
  repeat' (first|refine Sp.h ?_|refine Lk.r rfl ?_|refine Rf.mk rfl ?_|refine xB ?_|refine xN ?_|fail)
  exact Fin.p rfl rfl
theorem evalid1_p (m : ModS) (e : EvS) : CallP Tryz.prog 106 [evA' e, .ad (modC m) 0] (bl (decide (¬ EvV m (e.past.length : Nat) e))) := by
 have h := evalid_p m (e.past.length : Nat) e
 refine CallA.of pg ord106 Tryz.func106 rfl Tryz.ntmps106 Tryz.results106 rfl fun h0 G0 O0 => ?_
 repeat' (first|refine Sp.h ?_|refine Lk.r rfl ?_|refine Rf.mk rfl ?_|refine Im.mk fun _=>?_|refine All.mk fun _=>?_|refine xT ?_|refine Ch.l ⟨rfl, rfl⟩ ?_|refine xN ?_|(apply Cl.p (h);focus repeat' constructor))
 exact Fin.p rfl rfl
theorem evalidL_p (m : ModS) (l : List EvS) (h : ∀ e ∈ l, EvV m (e.past.length : Nat) e) : CallP Tryz.prog 58 [mdl m, evs l] (bl true) := by
 have hc := containsF_p (fun e => evalid1_p m e) rfl l
 rw [decide_eq_false (fun h9 => by
  obtain ⟨x, h1, h2⟩ := idxN_lt.1 h9
  exact (of_decide_eq_true h2) (h x h1))] at hc
 refine CallA.of pg ord58 Tryz.func58 rfl Tryz.ntmps58 Tryz.results58 rfl fun h0 G0 O0 => ?_
 repeat' (first|refine Sp.h ?_|refine Lk.r rfl ?_|refine Rf.mk rfl ?_|refine All.mk fun _=>?_|fail)
 (apply Cl.lend (hc);(focus repeat' (first|exact Lend.nil|apply Lend.keep|(apply Lend.cell;(focus repeat constructor))|refine Lend.fn ?_ ?_|fail)))
 repeat' (first|refine Sp.h ?_|refine Lk.r rfl ?_|refine xN ?_|fail)
 exact Fin.p rfl rfl
theorem foldE_succ {m : ModS} {l : List EvS} {i : Nat} {e : EvS} (h : l[i]? = some e) (s : List Int) : (l.take (i + 1)).foldl (addE m) s = addE m ((l.take i).foldl (addE m) s) e := by
 rw [List.take_add_one, h, Option.toList_some, List.foldl_append];rfl
set_option maxHeartbeats 4000000 in
theorem estate_p (m : ModS) (ld : List Int) (l : List EvS) (hm : MOK m) (hl : ld.length = strF m) (h : ∀ e ∈ l, EvV m (e.past.length : Nat) e) : CallP Tryz.prog 16 [mdl m, ints ld, evs l] (.tup [ints (l.foldl (addE m) ld), it 0]) := by
 have hml := hm.lay.2.2.1
 have hstr := hm.str
 have hcl := clone_o ld (by omega)
 have hvl := evalidL_p m l h
 refine CallA.fzt (T := 3) (by rw [foldE_len];omega) ?_
 refine CallA.of pg ord16 Tryz.func16 rfl Tryz.ntmps16 Tryz.results16 rfl fun h0 G0 O0 => ?_
 repeat' (first|refine Sp.h ?_|refine Lk.r rfl ?_|refine Rf.mk rfl ?_|refine Im.mk fun _=>?_|refine All.mk fun _=>?_|refine xT ?_|fail)
 rename_i b3 _
 refine CA.loop (fun i : Nat => ⟨[(1, ints ld), (2, evs l), (3, pm b3), (8, it (strN m (m.tables.take i) : Nat)), (17, tbls m.tables), (18, it (m.tables.length : Nat)), (19, it i)], [mR b3 m]⟩) (fun i => i ≤ m.tables.length) (fun i => m.tables.length - i) 0 xE (Nat.zero_le _) ?_
 intro i hi
 by_cases hin : i < m.tables.length
 ·obtain ⟨t, ht⟩ := get_of hin
  have hc := (hm.lay.2.2.2 t (List.mem_of_getElem? ht)).1
  have h1 := sz_fit (m := m) hc
  have hn := strN_le hm.lay i hi
  have hsu := strN_succ (m := m) ht
  have h2 := estrict_p t
  have h3 := esize_p m t hc
  by_cases hst : isStrict t.kind
  ·rw [if_pos hst] at hsu
   rw [decide_eq_true hst] at h2
   repeat' (first|refine Sp.h ?_|refine Lk.r rfl ?_|refine Rf.mk rfl ?_|refine xA ?_|refine All.mk fun _=>?_|refine xT ?_|refine xI ?_|refine Ch.l ⟨rfl, rfl⟩ ?_|(apply SetAsk.r;focus repeat' constructor)|refine xN ?_|refine xO ?_|(apply Cl.p (h2);focus (repeat' constructor);done)|(apply Cl.p (h3);focus (repeat' constructor);done))
   rw [show ((strN m (m.tables.take i) : Nat) : Int) + (szF m t : Nat) = (strN m (m.tables.take (i + 1)) : Nat) by omega]
   exact PA.lp (i + 1) xE ⟨hin, by omega⟩
  ·rw [if_neg hst] at hsu
   rw [decide_eq_false hst] at h2
   repeat' (first|refine Sp.h ?_|refine Lk.r rfl ?_|refine Rf.mk rfl ?_|refine xA ?_|refine All.mk fun _=>?_|refine xT ?_|refine xI ?_|refine Ch.l ⟨rfl, rfl⟩ ?_|(apply SetAsk.r;focus repeat' constructor)|refine xN ?_|refine xO ?_|(apply Cl.p (h2);focus (repeat' constructor);done)|(apply Cl.p (h3);focus (repeat' constructor);done))
   rw [show strN m (m.tables.take i) = strN m (m.tables.take (i + 1)) by omega]
   exact PA.lp (i + 1) xE ⟨hin, by omega⟩
 have hie : i = m.tables.length := by omega
 subst hie
 simp only [List.take_length]
 change CA _ _ _ [(1, ints ld), (2, evs l), (3, pm b3), (8, it (strF m : Nat)), (17, tbls m.tables), (18, it (m.tables.length : Nat)), (19, it (m.tables.length : Nat))] _
 repeat' (first|refine Sp.h ?_|refine Lk.r rfl ?_|refine Rf.mk rfl ?_|refine xA ?_|refine xB ?_|refine Im.mk fun _=>?_|refine xT ?_|refine Ch.l ⟨rfl, rfl⟩ ?_|(apply Cl.p (hvl);focus repeat' constructor))
 (refine Cl.use (hcl) (by repeat' (first|exact Lend.nil|apply Lend.keep|fail)) .nil rfl ?_;rintro _ _ ⟨_, rfl, rfl⟩)
 repeat' (first|refine Sp.h ?_|refine Lk.r rfl ?_|refine Rf.mk rfl ?_|refine Im.mk fun _=>?_|fail)
 rename_i u _ 
 refine CA.loop (fun i : Nat => ⟨[(3, pm b3), (11, .ow u), (43, evs l), (44, it (l.length : Nat)), (45, it i)], [mR b3 m, arrR u 3 1 ((l.take i).foldl (addE m) ld) intC]⟩) (fun i => i ≤ l.length) (fun i => l.length - i) 0 xE (Nat.zero_le _) ?_
 intro i hi
 by_cases hin : i < l.length
 ·obtain ⟨e, he⟩ := get_of hin
  have hev := h e (List.mem_of_getElem? he)
  have hsl : ((l.take i).foldl (addE m) ld).length = strF m := by rw [foldE_len];exact hl
  have hsu := foldE_succ (m := m) he ld
  obtain ⟨s, hs⟩ : ∃ s, s = (l.take i).foldl (addE m) ld := ⟨_, rfl⟩
  rw [← hs] at hsl hsu ⊢
  by_cases hk : e.kind = 0
  rotate_left
  ·have hadd : addE m s e = s := if_neg hk
   rw [hadd] at hsu
   repeat' (first|refine Sp.h ?_|refine Lk.r rfl ?_|refine Rf.mk rfl ?_|refine xA ?_|refine xB ?_|refine All.mk fun _=>?_|refine xT ?_|refine xI ?_|refine Ch.l ⟨rfl, rfl⟩ ?_|(apply SetAsk.r;focus repeat' constructor)|refine xN ?_|refine xO ?_|fail)
   rw [← hsu]
   exact PA.lp (i + 1) xE ⟨hin, by omega⟩
  have hact := act_rng hev.1 hk
  have hact2 := hev.2.2 hk
  obtain ⟨a, ha⟩ := get_of (l := m.acts) (i := e.action.toNat) (by omega)
  have hd := dltF_at ha
  have heo := hm.eff a (List.mem_of_getElem? ha)
  have hadd : addE m s e = addD s a.eff.delta := by rw [addE, if_pos hk, hd]
  repeat' (first|refine Sp.h ?_|refine Lk.r rfl ?_|refine Rf.mk rfl ?_|refine xA ?_|refine Im.mk fun _=>?_|refine All.mk fun _=>?_|refine xT ?_|refine xI ?_|(apply Ix.r;(focus assumption);(focus omega))|refine Ch.l ⟨rfl, rfl⟩ ?_|(apply SetAsk.r;focus repeat' constructor)|refine xN ?_|fail)
  refine CA.loop (fun k : Nat => ⟨[(3, pm b3), (11, .ow u), (43, evs l), (44, it (l.length : Nat)), (45, it i), (59, terms a.eff.delta), (60, it (a.eff.delta.length : Nat)), (61, it k)], [mR b3 m, arrR u 3 1 (addD s (a.eff.delta.take k)) intC]⟩) (fun k => k ≤ a.eff.delta.length) (fun k => a.eff.delta.length - k) 0 xE (Nat.zero_le _) ?_
  intro k hk2
  have hlen := addD_length (a.eff.delta.take k) s
  by_cases hkl : k < a.eff.delta.length
  ·obtain ⟨p, hp⟩ := get_of hkl
   obtain ⟨p1, p2⟩ := heo.d p (List.mem_of_getElem? hp)
   obtain ⟨z, hz⟩ := get_of (l := addD s (a.eff.delta.take k)) (i := p.1.toNat) (by omega)
   have hsd := addD_succ (s := s) hp
   rw [show add1 (addD s (a.eff.delta.take k)) p = (addD s (a.eff.delta.take k)).set p.1.toNat (IntKind.i64.wrap (z + p.2)) by rw [add1, hz];rfl] at hsd
   repeat' (first|refine Sp.h ?_|refine Lk.r rfl ?_|refine Rf.mk rfl ?_|refine xA ?_|refine OpK.r rfl ?_|refine All.mk fun _=>?_|refine xU ?_|refine xT ?_|refine xI ?_|(apply Ix.r;(focus assumption);(focus omega))|refine xJ ?_|refine Ch.l ⟨rfl, rfl⟩ ?_|(apply SetAsk.r;focus repeat' constructor)|refine xN ?_|refine xD ?_|fail)
   refine ⟨?_⟩
   repeat' (first|refine Sp.h ?_|refine Lk.r rfl ?_|refine Rf.mk rfl ?_|refine OpK.r rfl ?_|refine xU ?_|(apply Ix.r;(focus assumption);(focus omega))|refine xJ ?_|refine xV ?_|refine Up.r rfl ?_|refine xO ?_|fail)
   rw [← hsd]
   exact PA.lp (k + 1) xE ⟨hkl, by omega⟩
  ·have hke : k = a.eff.delta.length := by omega
   subst hke
   rw [List.take_length, ← hadd, ← hsu]
   repeat' (first|refine Sp.h ?_|refine Lk.r rfl ?_|refine Rf.mk rfl ?_|refine xB ?_|refine xO ?_|fail)
   exact PA.lp (i + 1) xE ⟨hin, by omega⟩
 ·have hie : i = l.length := by omega
  subst hie
  rw [List.take_length]
  repeat' (first|refine Sp.h ?_|refine Lk.r rfl ?_|refine Rf.mk rfl ?_|refine xB ?_|refine xN ?_|fail)
  exact ⟨_, _, .tup (.same (.same (.z))), _, rfl, rfl⟩
end Go.Proofs.YtajenkpjcbaadaaGreat
namespace Go.Proofs.YtajenkpjcbaadaaGreat
open Go Go.CF
set_option maxRecDepth 20000
theorem deliver_bad {m : ModS} {evl : List EvS} {w : NowS} {e : EvS} (h : ¬ (deliverF m evl w e).1 = 0) : (deliverF m evl w e).2 = w := by
 unfold deliverF at h ⊢
 repeat' split
 all_goals first
  | rfl
  | (exfalso;simp_all;done)
end Go.Proofs.YtajenkpjcbaadaaGreat
namespace Go.Proofs.YtajenkpjcbaadaaGreat
open Go Go.CF
set_option maxRecDepth 20000
theorem cntF_len (c : List Int) (e : EvS) : (cntF c e).length = c.length := by simp only [cntF, List.length_set]
theorem stlF_ind {N : Nat} (P : List Int → List (List Int × EvS) → List EvS → Prop)
  (hs : ∀ c H out p, HldOK N H → P c H out → p ∈ H → RdyE c p.2 → P (cntF c p.2) (delL H [p.2.rep, p.2.num]) (out ++ [p.2])) :
  ∀ (n : Nat) (c : List Int) (H : List (List Int × EvS)) (out : List EvS), HldOK N H → P c H out → HldOK N (stlF n c H out).2.2 ∧ P (stlF n c H out).2.1 (stlF n c H out).2.2 (stlF n c H out).1
 | 0, c, H, out, hH, h => ⟨hH, h⟩
 | n + 1, c, H, out, hH, h => by
  simp only [stlF]
  cases he : (ordE (H.map (·.2)))[idxN (rdyB c) (ordE (H.map (·.2)))]? with
  | none => exact ⟨hH, h⟩
  | some e =>
   obtain ⟨x, h1, h2, _⟩ := idxN_at (List.getElem?_eq_some_iff.1 he).1
   rw [he] at h1;cases h1
   obtain ⟨p, hp, rfl⟩ := List.mem_map.1 (ordE_mem.1 (List.mem_of_getElem? he))
   exact stlF_ind P hs n _ _ _ (hH.del _) (hs c H out p hH h hp (of_decide_eq_true h2))
theorem stlF_hld {N : Nat} {H : List (List Int × EvS)} (h : HldOK N H) (n : Nat) (c : List Int) (out : List EvS) : HldOK N (stlF n c H out).2.2 :=
 (stlF_ind (fun _ _ _ => True) (fun _ _ _ _ _ _ _ _ => trivial) n c H out h trivial).1
theorem stlF_clk {N : Nat} {H : List (List Int × EvS)} (h : HldOK N H) (n : Nat) (c : List Int) (out : List EvS) : (stlF n c H out).2.1.length = c.length :=
 (stlF_ind (fun d _ _ => d.length = c.length) (fun _ _ _ _ _ h1 _ _ => by rw [cntF_len];exact h1) n c H out h rfl).2
theorem stlF_sum {N : Nat} {H : List (List Int × EvS)} (h : HldOK N H) (n : Nat) (c : List Int) (out : List EvS) : (stlF n c H out).1.length + (stlF n c H out).2.2.length = out.length + H.length :=
 (stlF_ind (fun _ K o => o.length + K.length = out.length + H.length) (fun d K o p hK h1 hp _ => by
  have := delL_len (k := [p.2.rep, p.2.num]) ⟨p, hp, hK.key p hp⟩
  rw [List.length_append];simp only [List.length_cons, List.length_nil];omega) n c H out h rfl).2
theorem stlF_mem {N : Nat} {H : List (List Int × EvS)} (h : HldOK N H) (n : Nat) (c : List Int) (out : List EvS) : (∀ e ∈ (stlF n c H out).1, e ∈ out ∨ ∃ p ∈ H, p.2 = e) ∧ ∀ p ∈ (stlF n c H out).2.2, p ∈ H :=
 (stlF_ind (fun _ K o => (∀ e ∈ o, e ∈ out ∨ ∃ p ∈ H, p.2 = e) ∧ ∀ p ∈ K, p ∈ H) (fun d K o p hK h1 hp _ => ⟨fun e he => by
  rcases List.mem_append.1 he with he|he
  ·exact h1.1 e he
  ·rw [List.mem_singleton.1 he];exact .inr ⟨p, h1.2 p hp, rfl⟩, fun q hq => h1.2 q ((delL_sub _ _).mem hq)⟩) n c H out h ⟨fun e he => .inl he, fun p hp => hp⟩).2
/-! ### Adding -/
structure AddOK (N : Nat) (H : List (List Int × EvS)) (e : EvS) (r : Int × List EvS × List Int × List (List Int × EvS)) : Prop where
 clk : r.2.2.1.length = N
 hld : HldOK N r.2.2.2
 sum : r.2.1.length + r.2.2.2.length ≤ H.length + 1
 out : ∀ x ∈ r.2.1, x = e ∨ ∃ p ∈ H, p.2 = x
 mem : ∀ p ∈ r.2.2.2, p ∈ H ∨ p.2 = e
theorem addOK_id {N : Nat} {c : List Int} {H : List (List Int × EvS)} (e : EvS) (k : Int) (h : HldOK N H) (hc : c.length = N) : AddOK N H e (k, [], c, H) :=
 ⟨hc, h, by simp, fun x hx => by simp at hx, fun p hp => .inl hp⟩
theorem rep_rng {e : EvS} (h : FormedE e) : 0 ≤ e.rep ∧ e.rep < (e.past.length : Int) := by
 obtain ⟨_, f2, ⟨x, f3, _⟩, _⟩ := h
 have := (List.getElem?_eq_some_iff.1 f3).1
 exact ⟨f2, by omega⟩
theorem HldOK.ins {N : Nat} {H : List (List Int × EvS)} (h : HldOK N H) {e : EvS} (hf : FormedE e) (hl : e.past.length = N) (hn : lookL H [e.rep, e.num] = none) (hlen : H.length < 256) : HldOK N (updL H [e.rep, e.num] e) := by
 rw [updL_none _ _ _ hn]
 have hr := rep_rng hf
 have hne : ∀ p ∈ H, nm p.2 ≠ nm e := fun p hp h9 => by
  have h8 := h.key p hp
  unfold lookL at hn
  rw [Option.map_eq_none_iff, List.find?_eq_none] at hn
  exact hn p hp (by rw [h8];exact decide_eq_true h9)
 have hall : ∀ p ∈ H ++ [([e.rep, e.num], e)], p ∈ H ∨ p = ([e.rep, e.num], e) := fun p hp => by
  rcases List.mem_append.1 hp with hp|hp
  ·exact .inl hp
  ·exact .inr (List.mem_singleton.1 hp)
 refine ⟨fun p hp => ?_, fun p hp => ?_, fun p hp => ?_, by simp;omega, ?_⟩
 ·rcases hall p hp with hp|rfl
  ·exact h.rep p hp
  ·exact ⟨hr.1, by rw [← hl];exact hr.2⟩
 ·rcases hall p hp with hp|rfl
  ·exact h.key p hp
  ·rfl
 ·rcases hall p hp with hp|rfl
  ·exact h.fm p hp
  ·exact hf.1.2.2
 ·rw [List.map_append]
  refine uniq_pair.2 (List.pairwise_append.2 ⟨uniq_pair.1 h.nd, by simp, fun a ha b hb => ?_⟩)
  obtain ⟨p, hp, rfl⟩ := List.mem_map.1 ha
  rw [List.map_singleton, List.mem_singleton] at hb
  subst hb
  exact hne p hp
theorem addB_ok {N : Nat} {c : List Int} {H : List (List Int × EvS)} (e : EvS) (h : HldOK N H) (hc : c.length = N) : AddOK N H e (addB c H e) := by
 unfold addB
 by_cases k1 : ¬ FormedE e ∨ e.past.length ≠ c.length
 ·rw [if_pos k1];exact addOK_id e _ h hc
 rw [if_neg k1]
 have k0 : FormedE e := Decidable.not_not.1 fun h9 => k1 (.inl h9)
 have k2 : e.past.length = c.length := Decidable.not_not.1 fun h9 => k1 (.inr h9)
 by_cases q1 : (lookL H [e.rep, e.num]).isSome = true ∨ HasC c e.rep e.num
 ·rw [if_pos q1];exact addOK_id e _ h hc
 rw [if_neg q1]
 have hlk : lookL H [e.rep, e.num] = none := by
  cases h9 : lookL H [e.rep, e.num] with
  | none => rfl
  | some v => exact absurd (.inl (by rw [h9];rfl)) q1
 by_cases q3 : RdyE c e
 ·rw [if_pos q3]
  have hd := h.del [e.rep, e.num]
  have h2 := stlF_sum hd ((delL H [e.rep, e.num]).length + 1) (cntF c e) []
  have h3 := stlF_mem hd ((delL H [e.rep, e.num]).length + 1) (cntF c e) []
  have h4 := (delL_sub [e.rep, e.num] H).length_le
  refine ⟨by rw [stlF_clk hd, cntF_len];exact hc, stlF_hld hd _ _ _, ?_, fun x hx => ?_, fun p hp => .inl ((delL_sub _ _).mem (h3.2 p hp))⟩
  ·simp only [List.length_cons, List.length_nil] at h2 ⊢;omega
  ·rcases List.mem_cons.1 hx with rfl|hx
   ·exact .inl rfl
   ·rcases h3.1 x hx with hx|⟨p, hp, rfl⟩
    ·cases hx
    ·exact .inr ⟨p, (delL_sub _ _).mem hp, rfl⟩
 rw [if_neg q3]
 by_cases q4 : 256 ≤ H.length
 ·rw [if_pos q4];exact addOK_id e _ h hc
 rw [if_neg q4]
 refine ⟨hc, h.ins k0 (by omega) hlk (by omega), ?_, fun x hx => by simp at hx, fun p hp => ?_⟩
 ·rw [updL_none _ _ _ hlk];simp
 ·rw [updL_none _ _ _ hlk] at hp
  rcases List.mem_append.1 hp with hp|hp
  ·exact .inl hp
  ·rw [List.mem_singleton.1 hp];exact .inr rfl
/-! ### Peers -/
structure PrS where
 s : StoS
 c : List Int
 H : List (List Int × EvS)
 err : Int
noncomputable def dlvF (m : ModS) : List EvS → StoS → List EvS → Int × StoS × List EvS
 | [], s, out => (0, s, out)
 | x :: xs, s, out => if (deliverF m s.evs s.now x).1 = 0 then dlvF m xs ⟨s.base, s.evs ++ [x], (deliverF m s.evs s.now x).2⟩ (out ++ [x]) else ((deliverF m s.evs s.now x).1, s, out)
noncomputable def takF (m : ModS) : List EvS → PrS → List EvS → Int × PrS × List EvS
 | [], p, out => (0, p, out)
 | e :: l, p, out => if ¬ EvV m (p.s.now.clock.length : Nat) e then (1, p, out) else
  if (dlvF m (addB p.c p.H e).2.1 p.s out).1 = 0 then takF m l ⟨(dlvF m (addB p.c p.H e).2.1 p.s out).2.1, (addB p.c p.H e).2.2.1, (addB p.c p.H e).2.2.2, p.err⟩ (dlvF m (addB p.c p.H e).2.1 p.s out).2.2
  else ((dlvF m (addB p.c p.H e).2.1 p.s out).1, ⟨(dlvF m (addB p.c p.H e).2.1 p.s out).2.1, (addB p.c p.H e).2.2.1, (addB p.c p.H e).2.2.2, (dlvF m (addB p.c p.H e).2.1 p.s out).1⟩, (dlvF m (addB p.c p.H e).2.1 p.s out).2.2)
noncomputable def takeF (m : ModS) (l : List EvS) (p : PrS) : Int × PrS × List EvS := if p.err ≠ 0 then (9, p, []) else takF m l p []
structure PrOK (m : ModS) (N B : Nat) (p : PrS) : Prop where
 now : NowOK m p.s.now
 n : p.s.now.clock.length = N
 c : p.c.length = N
 hld : HldOK N p.H
 sz : p.s.evs.length + p.H.length ≤ B
 pl : p.s.now.places.length + p.H.length ≤ B
theorem deliver_len {m : ModS} {evl : List EvS} {w : NowS} {e : EvS} (h : (deliverF m evl w e).1 = 0) : (deliverF m evl w e).2.clock.length = w.clock.length ∧ (deliverF m evl w e).2.places = plE w.places e := by
 unfold deliverF at h ⊢
 repeat' split
 all_goals first
  | (exfalso;simp_all;done)
  | exact ⟨cntF_len _ _, rfl⟩
structure StK (m : ModS) (N B : Nat) (s : StoS) (k : Nat) : Prop where
 now : NowOK m s.now
 n : s.now.clock.length = N
 sz : s.evs.length + k ≤ B
 pl : s.now.places.length + k ≤ B
theorem StK.next {m : ModS} {N B k : Nat} {s : StoS} {x : EvS} (h : StK m N B s (k + 1)) (hB : B ≤ 100000) (hd : (deliverF m s.evs s.now x).1 = 0) : StK m N B ⟨s.base, s.evs ++ [x], (deliverF m s.evs s.now x).2⟩ k := by
 have h1 := h.sz;have h2 := h.pl
 have h3 := deliver_len hd
 have h4 := (plE_srt (e := x) h.now.pls).2
 refine ⟨now_deliver h.now (by omega) hd, by simp only;rw [h3.1];exact h.n, by simp;omega, ?_⟩
 simp only [h3.2]
 omega
theorem StK.mono {m : ModS} {N B k j : Nat} {s : StoS} (h : StK m N B s k) (hj : j ≤ k) : StK m N B s j := ⟨h.now, h.n, Nat.le_trans (Nat.add_le_add_left hj _) h.sz, Nat.le_trans (Nat.add_le_add_left hj _) h.pl⟩
theorem dlvF_len (m : ModS) : ∀ (X : List EvS) (s : StoS) (out : List EvS), (dlvF m X s out).2.2.length ≤ out.length + X.length
 | [], s, out => by simp [dlvF]
 | x :: X, s, out => by
  simp only [dlvF]
  split
  ·have := dlvF_len m X ⟨s.base, s.evs ++ [x], (deliverF m s.evs s.now x).2⟩ (out ++ [x])
   simp only [List.length_append, List.length_cons, List.length_nil] at this ⊢
   omega
  ·simp
theorem PrOK.add {m : ModS} {N B : Nat} {p : PrS} (h : PrOK m N B p) (e : EvS) : AddOK N p.H e (addB p.c p.H e) ∧ StK m N (B + 1) p.s ((addB p.c p.H e).2.1.length + (addB p.c p.H e).2.2.2.length) := by
 have ha := addB_ok e h.hld h.c
 have h1 := h.sz;have h2 := h.pl;have h3 := ha.sum
 exact ⟨ha, h.now, h.n, by omega, by omega⟩
theorem PrOK.of {m : ModS} {N B : Nat} {s : StoS} {c : List Int} {H : List (List Int × EvS)} {k : Int} (h : StK m N B s H.length) (hc : c.length = N) (hH : HldOK N H) : PrOK m N B ⟨s, c, H, k⟩ := ⟨h.now, h.n, hc, hH, h.sz, h.pl⟩
theorem takF_len {m : ModS} {N : Nat} : ∀ (l : List EvS) (p : PrS) (out : List EvS), HldOK N p.H → p.c.length = N → (takF m l p out).2.2.length ≤ out.length + p.H.length + l.length
 | [], p, out, h, hc => by simp only [takF, List.length_nil];omega
 | e :: l, p, out, h, hc => by
  have ha := addB_ok e h hc
  have h1 := ha.sum
  have h2 := dlvF_len m (addB p.c p.H e).2.1 p.s out
  simp only [takF, List.length_cons]
  split
  ·simp only;omega
  ·split
   ·have := takF_len (m := m) l ⟨(dlvF m (addB p.c p.H e).2.1 p.s out).2.1, (addB p.c p.H e).2.2.1, (addB p.c p.H e).2.2.2, p.err⟩ (dlvF m (addB p.c p.H e).2.1 p.s out).2.2 ha.hld ha.clk
    simp only at this
    omega
   ·simp only;omega
abbrev prR (pb sp bb mb : Nat) (m : ModS) (v vc : Value) (p : PrS) : List Res := [blkR pb 103 [pm sp, pm bb, it p.err], stoR sp m p.s.base v p.s.now, arrR v 40 13 p.s.evs evC, bufB bb vc mb, clkR vc p.c, heldR mb p.H]
end Go.Proofs.YtajenkpjcbaadaaGreat
namespace Go.Proofs.YtajenkpjcbaadaaGreat
open Go Go.CF
set_option maxRecDepth 20000
theorem dheld_a (b : Nat) (vc : Value) (mb : Nat) (c : List Int) (H : List (List Int × EvS)) {N : Nat} (h : HldOK N H) : CallA Tryz.prog 64 [pm b] [bufB b vc mb, clkR vc c, heldR mb H] fun r own => r = evs (ordE (H.map (·.2))) ∧ own = [bufB b vc mb, clkR vc c, heldR mb H] := by
 have h1 := dlist_a b vc mb c H h
 refine CallA.of pg ord64 Tryz.func64 rfl Tryz.ntmps64 Tryz.results64 rfl fun h0 G0 O0 => ?_
 repeat' (first|refine Sp.h ?_|refine Lk.r rfl ?_|refine Rf.mk rfl ?_|fail)
 refine xW (h1) ?_
 rintro _ _ ⟨rfl, rfl⟩
 repeat' (first|refine Sp.h ?_|refine Lk.r rfl ?_|refine xN ?_|fail)
 exact ⟨_, [bufB b vc mb, clkR vc c, heldR mb H], .one (.same (.z)), rfl, rfl⟩
theorem dnew_a (c : List Int) (h : ValC c) : CallA Tryz.prog 85 [ints c] [] fun r own => ∃ bb vc mb, r = .tup [pm bb, it 0] ∧ own = [bufB bb vc mb, clkR vc c, heldR mb []] := by
 have h1 := validC_p c
 rw [decide_eq_true h] at h1
 have h2 := clone_o c (by have := h.2.2;omega)
 refine CallA.of pg ord85 Tryz.func85 rfl Tryz.ntmps85 Tryz.results85 rfl fun h0 G0 O0 => ?_
 repeat' (first|refine Sp.h ?_|refine Lk.r rfl ?_|refine Rf.mk rfl ?_|refine xA ?_|(apply Cl.p (h1);focus repeat' constructor))
 (refine Cl.use (h2) (by repeat' (first|exact Lend.nil|apply Lend.keep|fail)) .nil rfl ?_;rintro _ _ ⟨_, rfl, rfl⟩)
 repeat' (first|refine Sp.h ?_|refine Lk.r rfl ?_|refine Rf.mk rfl ?_|fail)
 refine MkM.r evA' ?_
 refine ⟨fun M => ?_⟩
 repeat' (first|refine Sp.h ?_|refine Lk.r rfl ?_|refine Rf.mk rfl ?_|refine All.mk fun _=>?_|(apply Fk.r;focus repeat' first|infer_instance|constructor)|refine xN ?_|fail)
 exact ⟨_, [bufB _ _ M, clkR _ c, heldR M []], .tup (.same (.same (.z))), _, _, _, rfl, rfl⟩
set_option maxHeartbeats 8000000 in
theorem take_a (pb sp bb mb : Nat) (m : ModS) (v vc : Value) (N B : Nat) (p : PrS) (l : List EvS) (hm : MOK m) (h : PrOK m N B p) (hN : N ≤ 5) (hB : B + l.length ≤ 90000) :
  CallA Tryz.prog 10 [pm pb, evs l] (prR pb sp bb mb m v vc p) fun r own => r = .tup [evs (takeF m l p).2.2, it (takeF m l p).1] ∧ ∃ v', own = prR pb sp bb mb m v' vc (takeF m l p).2.1 := by
 by_cases he : p.err = 0
 rotate_left
 ·have hr : takeF m l p = (9, p, []) := if_pos he
  rw [hr]
  refine CallA.fxr (K := fun r own => r = .tup [nl0, it 9] ∧ own = prR pb sp bb mb m v vc p) ?_ (by rintro _ _ ⟨rfl, rfl⟩;exact ⟨_, _, .tup (.kn (.k .nil)) .nil, rfl, v, rfl⟩)
  refine CallA.of pg ord10 Tryz.func10 rfl Tryz.ntmps10 Tryz.results10 rfl fun h0 G0 O0 => ?_
  repeat' (first|refine Sp.h ?_|refine Lk.r rfl ?_|refine Rf.mk rfl ?_|refine xB ?_|refine xT ?_|refine xN ?_|fail)
  exact ⟨_, prR pb sp bb mb m v vc p, .tup (.same (.same (.z))), rfl, rfl⟩
 obtain ⟨res, hres⟩ : ∃ res, res = takF m l p [] := ⟨_, rfl⟩
 have hr : takeF m l p = res := by rw [takeF, if_neg (fun h9 => h9 he), hres]
 rw [hr]
 have hlen : res.2.2.length ≤ 100000 := by
  have h1 := takF_len (m := m) l p [] h.hld h.c
  rw [← hres] at h1
  have h2 := h.sz
  simp only [List.length_nil] at h1
  omega
 refine CallA.fxr (K := fun r own => ∃ u v', r = .tup [.ow u, it res.1] ∧ own = arrR u 40 13 res.2.2 evC :: prR pb sp bb mb m v' vc res.2.1) ?_ (by rintro _ _ ⟨u, v', rfl, rfl⟩;exact ⟨_, _, .tup (.s1 .here (by omega) (.k .nil)) .nil, rfl, v', rfl⟩)
 refine CallA.of pg ord10 Tryz.func10 rfl Tryz.ntmps10 Tryz.results10 rfl fun h0 G0 O0 => ?_
 repeat' (first|refine Sp.h ?_|refine Lk.r rfl ?_|refine Rf.mk rfl ?_|refine xA ?_|refine Im.mk fun _=>?_|refine xT ?_|fail)
 refine CA.nilOwn 6 40 13 evC rfl fun u0 => ?_
 refine CA.loop (fun x : Nat × PrS × List EvS × Value × Value => ⟨[(0, pm pb), (6, .ow x.2.2.2.1), (19, evs l), (20, it (l.length : Nat)), (21, it x.1)], arrR x.2.2.2.1 40 13 x.2.2.1 evC :: prR pb sp bb mb m x.2.2.2.2 vc x.2.1⟩)
  (fun x => x.1 ≤ l.length ∧ PrOK m N (B + x.1) x.2.1 ∧ x.2.1.err = 0 ∧ x.2.2.1.length ≤ 1000 * x.1 ∧ res = takF m (l.drop x.1) x.2.1 x.2.2.1) (fun x => l.length - x.1) (0, p, [], u0, v) xE ⟨Nat.zero_le _, h, he, by simp, hres⟩ ?_
 rintro ⟨i, ⟨⟨b, evl, w⟩, c, H, er⟩, out, u, v⟩ ⟨hi, hp, rfl, ho, hr⟩
 simp only at hi hp ho hr
 simp only
 by_cases hin : i < l.length
 ·obtain ⟨e, hx⟩ := get_of hin
  have hva := svalid_p sp m b v w e
  have hadd := dadd_a bb vc mb c H e (by rw [hp.c];exact hp.hld) (by rw [hp.c];omega)
  repeat' (first|refine Sp.h ?_|refine Lk.r rfl ?_|refine Rf.mk rfl ?_|refine xA ?_|refine OpK.r rfl ?_|refine All.mk fun _=>?_|refine xT ?_|refine xI ?_|refine Ch.l ⟨rfl, rfl⟩ ?_|(apply SetAsk.r;focus repeat' constructor)|refine xN ?_|refine xD ?_|fail)
  refine xW (hva) ?_
  rintro _ _ ⟨rfl, rfl⟩
  by_cases hv : EvV m (w.clock.length : Nat) e
  rotate_left
  ·have hr2 : res = (1, ⟨⟨b, evl, w⟩, c, H, 0⟩, out) := by
    rw [hr, List.drop_eq_getElem_cons hin, (List.getElem?_eq_some_iff.1 hx).2]
    simp only [takF, if_pos hv]
   rw [hr2]
   simp only [decide_eq_false hv]
   repeat' (first|refine Sp.h ?_|refine Lk.r rfl ?_|refine Rf.mk rfl ?_|refine xB ?_|refine OpK.r rfl ?_|refine xN ?_|fail)
   exact ⟨_, arrR u 40 13 out evC :: prR pb sp bb mb m v vc ⟨⟨b, evl, w⟩, c, H, 0⟩, .tup (.same (.same (.z))), _, v, rfl, rfl⟩
  simp only [decide_eq_true hv]
  obtain ⟨A, hA⟩ : ∃ A, A = addB c H e := ⟨_, rfl⟩
  obtain ⟨ha, hs⟩ := hp.add e
  simp only [← hA] at hadd ha hs
  have hAl := ha.sum
  have hHl := hp.hld.len
  simp only at hHl
  obtain ⟨D, hD⟩ : ∃ D, D = dlvF m A.2.1 ⟨b, evl, w⟩ out := ⟨_, rfl⟩
  have hr2 : res = if D.1 = 0 then takF m (l.drop (i + 1)) ⟨D.2.1, A.2.2.1, A.2.2.2, 0⟩ D.2.2 else (D.1, ⟨D.2.1, A.2.2.1, A.2.2.2, D.1⟩, D.2.2) := by
   rw [hr, List.drop_eq_getElem_cons hin, (List.getElem?_eq_some_iff.1 hx).2]
   simp only [takF, ← hA, ← hD]
   exact if_neg (fun h9 => h9 hv)
  repeat' (first|refine Sp.h ?_|refine Lk.r rfl ?_|refine Rf.mk rfl ?_|refine xA ?_|refine OpK.r rfl ?_|refine xT ?_|refine Ch.l ⟨rfl, rfl⟩ ?_|refine xD ?_|fail)
  refine xW (hadd) ?_
  rintro _ _ ⟨rfl, rfl⟩
  repeat' (first|refine Sp.h ?_|refine Lk.r rfl ?_|refine Rf.mk rfl ?_|refine OpK.r rfl ?_|refine Im.mk fun _=>?_|fail)
  refine CA.loop (fun x : Nat × StoS × List EvS × Value × Value => ⟨[(0, pm pb), (6, .ow x.2.2.2.1), (19, evs l), (20, it (l.length : Nat)), (21, it i), (42, evs A.2.1), (43, it (A.2.1.length : Nat)), (44, it x.1)], arrR x.2.2.2.1 40 13 x.2.2.1 evC :: prR pb sp bb mb m x.2.2.2.2 vc ⟨x.2.1, A.2.2.1, A.2.2.2, 0⟩⟩)
   (fun x => x.1 ≤ A.2.1.length ∧ StK m N (B + i + 1) x.2.1 (A.2.1.length - x.1 + A.2.2.2.length) ∧ x.2.2.1.length ≤ 1000 * i + x.1 ∧ D = dlvF m (A.2.1.drop x.1) x.2.1 x.2.2.1) (fun x => A.2.1.length - x.1) (0, ⟨b, evl, w⟩, out, u, v) xE ⟨Nat.zero_le _, hs, ho, hD⟩ ?_
  rintro ⟨j, ⟨b', evl', w'⟩, out', u', v'⟩ ⟨hj, hS, hol, hD2⟩
  simp only at hj hS hol hD2
  simp only
  by_cases hjn : j < A.2.1.length
  ·obtain ⟨y, hy⟩ := get_of hjn
   have hdl := deliver_a sp m b' v' evl' w' y hm hS.now (by have := hS.sz;simp only at this;omega)
   repeat' (first|refine Sp.h ?_|refine Lk.r rfl ?_|refine Rf.mk rfl ?_|refine xA ?_|refine OpK.r rfl ?_|refine All.mk fun _=>?_|refine xT ?_|refine xI ?_|refine Ch.l ⟨rfl, rfl⟩ ?_|(apply SetAsk.r;focus repeat' constructor)|refine xN ?_|refine xD ?_|fail)
   refine xW (hdl) ?_
   rintro _ _ ⟨rfl, v2, rfl⟩
   by_cases hk : (deliverF m evl' w' y).1 = 0
   ·have hD3 : D = dlvF m (A.2.1.drop (j + 1)) ⟨b', evl' ++ [y], (deliverF m evl' w' y).2⟩ (out' ++ [y]) := by
     rw [hD2, List.drop_eq_getElem_cons hjn, (List.getElem?_eq_some_iff.1 hy).2]
     simp only [dlvF, if_pos hk]
    rw [evsD, if_pos hk]
    repeat' (first|refine Sp.h ?_|refine Lk.r rfl ?_|refine Rf.mk rfl ?_|refine xA ?_|refine OpK.r rfl ?_|refine xP ?_|refine All.mk fun _=>?_|refine xU ?_|refine xT ?_|refine Ce.r ?_|refine Ch.l ⟨rfl, rfl⟩ ?_|(apply Fk.r;focus repeat' first|infer_instance|constructor)|refine Rf.mk ⟨rfl, rfl⟩ ?_|refine Rf.mk ⟨rfl, rfl, rfl⟩ ?_|(apply Mp.lit;(focus repeat (first|exact MpL.nil|(apply MpL.cons;(focus rfl))|(apply MpL.inv;(focus repeat constructor);(focus infer_instance)))))|refine xO ?_|fail)
    refine PA.lp (j + 1, ⟨b', evl' ++ [y], (deliverF m evl' w' y).2⟩, out' ++ [y], _, v2) xE ⟨⟨hjn, StK.next (hS.mono (by omega)) (by omega) hk, by simp only [List.length_append, List.length_cons, List.length_nil];omega, hD3⟩, by simp only;omega⟩
   ·have hD3 : D = ((deliverF m evl' w' y).1, ⟨b', evl', w'⟩, out') := by
     rw [hD2, List.drop_eq_getElem_cons hjn, (List.getElem?_eq_some_iff.1 hy).2]
     simp only [dlvF, if_neg hk]
    rw [hD3, if_neg hk] at hr2
    rw [evsD, if_neg hk, deliver_bad hk, hr2]
    repeat' (first|refine Sp.h ?_|refine Lk.r rfl ?_|refine Rf.mk rfl ?_|refine xB ?_|refine OpK.r rfl ?_|refine xT ?_|refine xV ?_|refine xN ?_|fail)
    exact ⟨_, arrR u' 40 13 out' evC :: prR pb sp bb mb m v2 vc ⟨⟨b', evl', w'⟩, A.2.2.1, A.2.2.2, (deliverF m evl' w' y).1⟩, .tup (.same (.same (.z))), _, v2, rfl, rfl⟩
  ·have hD3 : D = (0, ⟨b', evl', w'⟩, out') := by
    rw [hD2, List.drop_eq_nil_of_le (by omega)];rfl
   rw [hD3, if_pos rfl] at hr2
   repeat' (first|refine Sp.h ?_|refine Lk.r rfl ?_|refine Rf.mk rfl ?_|refine xB ?_|refine xO ?_|fail)
   refine PA.lp (i + 1, ⟨⟨b', evl', w'⟩, A.2.2.1, A.2.2.2, 0⟩, out', u', v') xE ⟨⟨hin, PrOK.of (hS.mono (by omega)) ha.clk ha.hld, rfl, by simp only;omega, hr2⟩, by simp only;omega⟩
 ·have hr2 : res = (0, ⟨⟨b, evl, w⟩, c, H, 0⟩, out) := by
   rw [hr, List.drop_eq_nil_of_le (by omega)];rfl
  rw [hr2]
  repeat' (first|refine Sp.h ?_|refine Lk.r rfl ?_|refine Rf.mk rfl ?_|refine xB ?_|refine xN ?_|fail)
  exact ⟨_, arrR u 40 13 out evC :: prR pb sp bb mb m v vc ⟨⟨b, evl, w⟩, c, H, 0⟩, .tup (.same (.same (.z))), _, v, rfl, rfl⟩
end Go.Proofs.YtajenkpjcbaadaaGreat
namespace Go.Proofs.YtajenkpjcbaadaaGreat
open Go Go.CF
set_option maxRecDepth 20000
abbrev SpS := Int × Int × Int
abbrev sps (l : List SpS) : AV := .sl 3 l spanC
def mis1 (a b : List Int) (i : Nat) : List SpS := match a[i]?, b[i]? with
 | some x, some y => if x < y then [((i : Int), x + 1, y)] else []
 | _, _ => []
def misN (a b : List Int) : Nat → List SpS
 | 0 => []
 | i + 1 => misN a b i ++ mis1 a b i
def misF (a b : List Int) : List SpS := misN a b a.length
theorem misN_len (a b : List Int) : ∀ i, (misN a b i).length ≤ i
 | 0 => Nat.le_refl _
 | i + 1 => by
  have := misN_len a b i
  have h1 : (mis1 a b i).length ≤ 1 := by
   unfold mis1
   repeat' split
   all_goals simp
  simp only [misN, List.length_append];omega
theorem misN_mem {a b : List Int} : ∀ {i : Nat} {s : SpS}, s ∈ misN a b i ↔ ∃ j x y, j < i ∧ a[j]? = some x ∧ b[j]? = some y ∧ x < y ∧ s = ((j : Int), x + 1, y)
 | 0, s => by simp [misN]
 | i + 1, s => by
  simp only [misN, List.mem_append, misN_mem (i := i)]
  constructor
  ·rintro (⟨j, x, y, h1, h2⟩|h)
   ·exact ⟨j, x, y, by omega, h2⟩
   ·unfold mis1 at h
    cases hx : a[i]? with
    | none => simp [hx] at h
    | some x =>
     cases hy : b[i]? with
     | none => simp [hx, hy] at h
     | some y =>
      simp only [hx, hy] at h
      split at h
      ·rw [List.mem_singleton] at h
       exact ⟨i, x, y, by omega, hx, hy, by assumption, h⟩
      ·cases h
  ·rintro ⟨j, x, y, h1, h2, h3, h4, rfl⟩
   by_cases hj : j = i
   ·subst hj
    right
    simp only [mis1, h2, h3, if_pos h4, List.mem_singleton]
   ·exact .inl ⟨j, x, y, by omega, h2, h3, h4, rfl⟩
theorem missing_e (a b : List Int) (ha : ValC a) (hb : ValC b) (hab : a.length = b.length) : CallO Tryz.prog 70 [ints a, ints b] 171 3 (misF a b) spanC := by
 have hal : AlikeC [a, b] := (alike2 a b).2 ⟨ha, hb, hab⟩
 have h1 := alike_p [a, b]
 rw [decide_eq_true hal] at h1
 refine CallA.of pg ord70 Tryz.func70 rfl Tryz.ntmps70 Tryz.results70 rfl fun h0 G0 O0 => ?_
 repeat' (first|refine Sp.h ?_|refine Lk.r rfl ?_|refine Rf.mk rfl ?_|refine All.mk fun _=>?_|(apply Fk.r;focus repeat' first|infer_instance|constructor)|refine Rf.mk ⟨rfl, rfl, rfl⟩ ?_|fail)
 rename_i w
 (apply Cl.lend (h1);(focus repeat' (first|exact Lend.nil|(apply Lend.lendm;(focus repeat constructor);(focus rfl);(focus first|omega|decide|(simp;omega)|exact Nat.le_of_ble_eq_true rfl))|fail)))
 repeat' (first|refine Sp.h ?_|refine Lk.r rfl ?_|refine Rf.mk rfl ?_|refine xA ?_|refine Im.mk fun _=>?_|fail)
 refine CA.nilOwn 5 171 3 spanC rfl fun w2 => ?_
 refine CA.loop (fun x : Nat × Value => ⟨[(0, ints a), (1, ints b), (13, .val (.int .i64 a.length)), (14, .val (.int .i64 x.1)), (5, .ow x.2)], [arrR x.2 171 3 (misN a b x.1) spanC]⟩)
  (fun x => x.1 ≤ a.length) (fun x => a.length - x.1) (0, w2) xE (Nat.zero_le _) ?_
 rintro ⟨i, v⟩ hi
 simp only at hi
 have hva3 := ha.2
 have hml := misN_len a b i
 by_cases hin : i < a.length
 ·obtain ⟨x, hx⟩ := get_of hin
  obtain ⟨y, hy⟩ := get_of (l := b) (i := i) (by omega)
  have hrx := ha.1 x (List.mem_of_getElem? hx)
  unfold rngK at hrx
  by_cases hxy : x < y
  ·have hm : misN a b (i + 1) = misN a b i ++ [((i : Int), x + 1, y)] := by simp only [misN, mis1, hx, hy, if_pos hxy]
   repeat' (first|refine Sp.h ?_|refine Lk.r rfl ?_|refine Rf.mk rfl ?_|refine xA ?_|refine OpK.r rfl ?_|refine xP ?_|refine All.mk fun _=>?_|refine xU ?_|refine xI ?_|refine Ce.r ?_|(apply Fk.r;focus repeat' first|infer_instance|constructor)|refine Rf.mk ⟨rfl, rfl⟩ ?_|refine Rf.mk ⟨rfl, rfl, rfl⟩ ?_|(apply Mp.lit;(focus repeat (first|exact MpL.nil|(apply MpL.cons;(focus rfl))|(apply MpL.inv;(focus repeat constructor);(focus infer_instance)))))|refine xD ?_|refine xO ?_|fail)
   rename_i v2
   refine PA.lp (i + 1, v2) ⟨by rw [hm];(repeat first|exact trivial|refine ⟨rfl, ?_⟩), by rw [hm];(repeat first|exact .nil|refine .cons (by repeat constructor) ?_)⟩ ⟨hin, by simp only;omega⟩
  ·have hm : misN a b (i + 1) = misN a b i := by simp only [misN, mis1, hx, hy, if_neg hxy, List.append_nil]
   repeat' (first|refine Sp.h ?_|refine Lk.r rfl ?_|refine Rf.mk rfl ?_|refine xA ?_|refine xB ?_|refine OpK.r rfl ?_|refine xI ?_|refine xD ?_|refine xO ?_|fail)
   refine PA.lp (i + 1, v) ⟨by rw [hm];(repeat first|exact trivial|refine ⟨rfl, ?_⟩), by rw [hm];(repeat first|exact .nil|refine .cons (by repeat constructor) ?_)⟩ ⟨hin, by simp only;omega⟩
 ·have : i = a.length := by omega
  subst this
  repeat' (first|refine Sp.h ?_|refine Lk.r rfl ?_|refine Rf.mk rfl ?_|refine xB ?_|refine xN ?_|fail)
  exact ⟨_, _, .one (.same (.z)), v, rfl, rfl⟩
theorem missing_p (a b : List Int) (ha : ValC a) (hb : ValC b) (hab : a.length = b.length) : CallP Tryz.prog 70 [ints a, ints b] (sps (misF a b)) :=
 CallA.fz (by have := misN_len a b a.length;have := ha.2.2;unfold misF;omega) (missing_e a b ha hb hab)
end Go.Proofs.YtajenkpjcbaadaaGreat
namespace Go.Proofs.YtajenkpjcbaadaaGreat
open Go Go.CF
set_option maxRecDepth 20000
def wnt1 (hb : Int → Int → Bool) (r n : Int) (out : List SpS) : List SpS := if hb r n = true then out else match out[out.length - 1]? with
 | some s => if s.1 = r ∧ s.2.2 = n - 1 then out.set (out.length - 1) (s.1, s.2.1, n) else out ++ [(r, n, n)]
 | none => out ++ [(r, n, n)]
def wntR (hb : Int → Int → Bool) (r : Int) : Nat → Int → List SpS → List SpS
 | 0, _, out => out
 | k + 1, n, out => wntR hb r k (n + 1) (wnt1 hb r n out)
def wntL (hb : Int → Int → Bool) : List SpS → List SpS → List SpS
 | [], out => out
 | s :: l, out => wntL hb l (wntR hb s.1 (s.2.2 + 1 - s.2.1).toNat s.2.1 out)
noncomputable def hldB (H : List (List Int × EvS)) (r n : Int) : Bool := decide (∃ p ∈ H, p.2.rep = r ∧ p.2.num = n)
noncomputable def wantsF (c : List Int) (H : List (List Int × EvS)) (theirs : List Int) : Int × List SpS := if ValC theirs ∧ theirs.length = c.length then (0, wntL (hldB H) (misF c theirs) []) else (1, [])
def namesE (l : List EvS) : List (List Int × Bool) := l.map fun e => (nm e, true)
theorem namesE_look (l : List EvS) (r n : Int) : lookL (namesE l) [r, n] = if (∃ e ∈ l, e.rep = r ∧ e.num = n) then some true else none := by
 unfold lookL namesE
 cases hf : (l.map fun e => (nm e, true)).find? fun p => decide (p.1 = [r, n]) with
 | none =>
  rw [List.find?_eq_none] at hf
  rw [if_neg (fun ⟨e, he, h1, h2⟩ => hf (nm e, true) (List.mem_map.2 ⟨e, he, rfl⟩) (decide_eq_true (by rw [← h1, ← h2];rfl)))]
  rfl
 | some p =>
  obtain ⟨e, he, rfl⟩ := List.mem_map.1 (List.mem_of_find?_eq_some hf)
  have h1 : nm e = [r, n] := by have := List.find?_some hf;exact of_decide_eq_true this
  simp only [nm, List.cons.injEq, and_true] at h1
  rw [if_pos ⟨e, he, h1.1, h1.2⟩]
  rfl
theorem namesE_app {l : List EvS} (hu : Uniq l) {i : Nat} {e : EvS} (he : l[i]? = some e) : updL (namesE (l.take i)) [e.rep, e.num] true = namesE (l.take (i + 1)) := by
 rw [updL_none _ _ _ ?_, List.take_add_one, he]
 ·simp [namesE, nm]
 ·rw [namesE_look, if_neg]
  rintro ⟨x, hx, h1, h2⟩
  obtain ⟨j, hj⟩ := List.getElem?_of_mem hx
  have hji : j < i := by
   by_cases h9 : j < i
   ·exact h9
   ·rw [List.getElem?_take, if_neg h9] at hj;cases hj
  rw [List.getElem?_take_of_lt hji] at hj
  have := hu j i x e hj he (by simp [nm, h1, h2])
  omega
theorem wnt1_len (hb : Int → Int → Bool) (r n : Int) (out : List SpS) : (wnt1 hb r n out).length ≤ out.length + 1 := by
 unfold wnt1
 repeat' split
 all_goals simp
theorem wntR_len (hb : Int → Int → Bool) (r : Int) : ∀ (k : Nat) (n : Int) (out : List SpS), (wntR hb r k n out).length ≤ out.length + k
 | 0, n, out => Nat.le_refl _
 | k + 1, n, out => by
  have h1 := wnt1_len hb r n out
  have h2 := wntR_len hb r k (n + 1) (wnt1 hb r n out)
  rw [wntR];omega
theorem wntL_len (hb : Int → Int → Bool) : ∀ (l : List SpS) (out : List SpS), (∀ s ∈ l, (s.2.2 + 1 - s.2.1).toNat ≤ 1024) → (wntL hb l out).length ≤ out.length + 1024 * l.length
 | [], out, _ => by simp [wntL]
 | s :: l, out, h => by
  have h1 := wntR_len hb s.1 (s.2.2 + 1 - s.2.1).toNat s.2.1 out
  have h2 := wntL_len hb l (wntR hb s.1 (s.2.2 + 1 - s.2.1).toNat s.2.1 out) fun x hx => h x (List.mem_cons_of_mem _ hx)
  have h3 := h s List.mem_cons_self
  rw [wntL, List.length_cons];omega
theorem hldB_ord {N : Nat} {H : List (List Int × EvS)} (h : HldOK N H) (r n : Int) : (∃ e ∈ ordE (H.map (·.2)), e.rep = r ∧ e.num = n) ↔ hldB H r n = true := by
 unfold hldB
 rw [decide_eq_true_iff]
 constructor
 ·rintro ⟨e, he, h1⟩
  obtain ⟨p, hp, rfl⟩ := List.mem_map.1 (ordE_mem.1 he)
  exact ⟨p, hp, h1⟩
 ·rintro ⟨p, hp, h1⟩
  exact ⟨p.2, ordE_mem.2 (List.mem_map_of_mem hp), h1⟩
theorem ordE_nd {l : List EvS} (h : Uniq l) : Uniq (ordE l) := uniq_perm (ordE_perm l) h
set_option maxHeartbeats 8000000 in
theorem wants_a (pb sp bb mb : Nat) (m : ModS) (v vc : Value) (N B : Nat) (p : PrS) (th : List Int) (h : PrOK m N B p) :
  CallA Tryz.prog 53 [pm pb, ints th] (prR pb sp bb mb m v vc p) fun r own => r = .tup [sps (wantsF p.s.now.clock p.H th).2, it (wantsF p.s.now.clock p.H th).1] ∧ own = prR pb sp bb mb m v vc p := by
 have hcv := h.now.clk
 have hcl := hcv.2.2
 have hck := sclock_p sp m p.s.base v p.s.now (by omega)
 have hva := validC_p th
 by_cases hok : ValC th ∧ th.length = p.s.now.clock.length
 rotate_left
 ·have hr : wantsF p.s.now.clock p.H th = (1, []) := if_neg hok
  rw [hr]
  refine CallA.fxr (K := fun r own => r = .tup [nl0, it 1] ∧ own = prR pb sp bb mb m v vc p) ?_ (by rintro _ _ ⟨rfl, rfl⟩;exact ⟨_, _, .tup (.kn (.k .nil)) .nil, rfl, rfl⟩)
  by_cases hv : ValC th
  ·have hne : ¬ ((th.length : Int) = (p.s.now.clock.length : Int)) := fun h9 => hok ⟨hv, by omega⟩
   rw [decide_eq_true hv] at hva
   refine CallA.of pg ord53 Tryz.func53 rfl Tryz.ntmps53 Tryz.results53 rfl fun h0 G0 O0 => ?_
   repeat' (first|refine Sp.h ?_|refine Lk.r rfl ?_|refine Rf.mk rfl ?_|refine xT ?_|fail)
   refine xW (hck) ?_
   rintro _ _ ⟨rfl, rfl⟩
   repeat' (first|refine Sp.h ?_|refine Lk.r rfl ?_|refine Rf.mk rfl ?_|refine xA ?_|refine xB ?_|refine Im.mk fun _=>?_|refine xN ?_|(apply Cl.p (hva);focus repeat' constructor))
   exact ⟨_, prR pb sp bb mb m v vc p, .tup (.same (.same (.z))), rfl, rfl⟩
  ·rw [decide_eq_false hv] at hva
   refine CallA.of pg ord53 Tryz.func53 rfl Tryz.ntmps53 Tryz.results53 rfl fun h0 G0 O0 => ?_
   repeat' (first|refine Sp.h ?_|refine Lk.r rfl ?_|refine Rf.mk rfl ?_|refine xT ?_|fail)
   refine xW (hck) ?_
   rintro _ _ ⟨rfl, rfl⟩
   repeat' (first|refine Sp.h ?_|refine Lk.r rfl ?_|refine Rf.mk rfl ?_|refine xB ?_|refine xN ?_|(apply Cl.p (hva);focus repeat' constructor))
   exact ⟨_, prR pb sp bb mb m v vc p, .tup (.same (.same (.z))), rfl, rfl⟩
 obtain ⟨hv, hl⟩ := hok
 have hr : wantsF p.s.now.clock p.H th = (0, wntL (hldB p.H) (misF p.s.now.clock th) []) := if_pos ⟨hv, hl⟩
 rw [hr]
 rw [decide_eq_true hv] at hva
 obtain ⟨res, hres⟩ : ∃ res, res = wntL (hldB p.H) (misF p.s.now.clock th) [] := ⟨_, rfl⟩
 rw [← hres]
 obtain ⟨ms, hms⟩ : ∃ ms, ms = misF p.s.now.clock th := ⟨_, rfl⟩
 rw [← hms] at hres
 have hmi := missing_p p.s.now.clock th hcv hv hl.symm
 rw [← hms] at hmi
 have hml : ms.length ≤ 5 := by rw [hms];have := misN_len p.s.now.clock th p.s.now.clock.length;unfold misF;omega
 have hmr : ∀ s ∈ ms, 0 ≤ s.1 ∧ 1 ≤ s.2.1 ∧ s.2.1 ≤ s.2.2 ∧ s.2.2 ≤ 1024 := fun s hs => by
  rw [hms] at hs
  obtain ⟨j, x, y, h1, h2, h3, h4, rfl⟩ := misN_mem.1 hs
  have a1 := hcv.1 x (List.mem_of_getElem? h2)
  have a2 := hv.1 y (List.mem_of_getElem? h3)
  unfold rngK at a1 a2
  exact ⟨by simp only;omega, by simp only;omega, by simp only;omega, by simp only;omega⟩
 have hh := dheld_a bb vc mb p.c p.H h.hld
 obtain ⟨Q, hQ⟩ : ∃ Q, Q = ordE (p.H.map (·.2)) := ⟨_, rfl⟩
 have hQu : Uniq Q := by rw [hQ];exact ordE_nd h.hld.nd
 have hlk : ∀ r n, lookL (namesE Q) [r, n] = if hldB p.H r n = true then some true else none := fun r n => by
  rw [namesE_look, hQ]
  by_cases h9 : hldB p.H r n = true
  ·rw [if_pos h9, if_pos ((hldB_ord h.hld r n).2 h9)]
  ·rw [if_neg h9, if_neg (fun h8 => h9 ((hldB_ord h.hld r n).1 h8))]
 rw [← hQ] at hh
 have hrl : res.length ≤ 100000 := by
  have h1 := wntL_len (hldB p.H) ms [] fun s hs => by obtain ⟨_, a1, a2, a3⟩ := hmr s hs;omega
  rw [← hres] at h1
  simp only [List.length_nil] at h1
  omega
 refine CallA.fxr (K := fun r own => ∃ u, r = .tup [.ow u, it 0] ∧ own = arrR u 171 3 res spanC :: prR pb sp bb mb m v vc p) ?_ (by rintro _ _ ⟨u, rfl, rfl⟩;exact ⟨_, _, .tup (.s1 .here (by omega) (.k .nil)) .nil, rfl, rfl⟩)
 refine CallA.of pg ord53 Tryz.func53 rfl Tryz.ntmps53 Tryz.results53 rfl fun h0 G0 O0 => ?_
 repeat' (first|refine Sp.h ?_|refine Lk.r rfl ?_|refine Rf.mk rfl ?_|refine xT ?_|fail)
 refine xW (hck) ?_
 rintro _ _ ⟨rfl, rfl⟩
 repeat' (first|refine Sp.h ?_|refine Lk.r rfl ?_|refine Rf.mk rfl ?_|refine xA ?_|refine Im.mk fun _=>?_|(apply Cl.p (hva);focus repeat' constructor))
 refine MkM.r bl ?_
 refine ⟨fun M => ?_⟩
 repeat' (first|refine Sp.h ?_|refine Lk.r rfl ?_|refine Rf.mk rfl ?_|refine xT ?_|fail)
 refine xW (hh) ?_
 rintro _ _ ⟨rfl, rfl⟩
 repeat' (first|refine Sp.h ?_|refine Lk.r rfl ?_|refine Im.mk fun _=>?_|fail)
 refine CA.loop (fun i : Nat => ⟨[(1, ints th), (6, ints p.s.now.clock), (7, .val (.map (some M))), (35, evs Q), (36, it (Q.length : Nat)), (37, it i)], mapR Tryz.prog M 70 (namesE (Q.take i)) bl :: prR pb sp bb mb m v vc p⟩)
  (fun i => i ≤ Q.length) (fun i => Q.length - i) 0 xE (Nat.zero_le _) ?_
 rintro i hi
 by_cases hin : i < Q.length
 ·obtain ⟨e, he⟩ := get_of hin
  have hap := namesE_app hQu he
  repeat' (first|refine Sp.h ?_|refine Lk.r rfl ?_|refine Rf.mk rfl ?_|refine xA ?_|refine All.mk fun _=>?_|refine xT ?_|refine xI ?_|refine Ch.l ⟨rfl, rfl⟩ ?_|(apply SetAsk.r;focus repeat' constructor)|(apply Fk.r;focus repeat' first|infer_instance|constructor)|refine xN ?_|refine xK ?_|(apply Kf.mk;(focus kernel_rfl))|refine xM ?_|refine UpV.r rfl ?_|refine xO ?_|fail)
  refine PA.lp (i + 1) ⟨by (repeat first|exact trivial|refine ⟨rfl, ?_⟩), by rw [← hap];(repeat first|exact .nil|refine .cons (by repeat constructor) ?_)⟩ ⟨hin, by omega⟩
 have hie : i = Q.length := by omega
 subst hie
 rw [List.take_length]
 repeat' (first|refine Sp.h ?_|refine Lk.r rfl ?_|refine Rf.mk rfl ?_|refine xB ?_|fail)
 repeat' (first|refine Sp.h ?_|refine Lk.r rfl ?_|refine Im.mk fun _=>?_|(apply Cl.p (hmi);focus repeat' constructor))
 refine CA.nilOwn 10 171 3 spanC rfl fun u0 => ?_
 refine CA.loop (fun x : Nat × List SpS × Value => ⟨[(7, .val (.map (some M))), (10, .ow x.2.2), (50, sps ms), (51, it (ms.length : Nat)), (52, it x.1)], arrR x.2.2 171 3 x.2.1 spanC :: mapR Tryz.prog M 70 (namesE Q) bl :: prR pb sp bb mb m v vc p⟩)
  (fun x => x.1 ≤ ms.length ∧ x.2.1.length ≤ 2000 * x.1 ∧ res = wntL (hldB p.H) (ms.drop x.1) x.2.1) (fun x => ms.length - x.1) (0, [], u0) xE ⟨Nat.zero_le _, by simp, hres⟩ ?_
 rintro ⟨i, out, u⟩ ⟨hi, ho, hr⟩
 simp only at hi ho hr
 simp only
 by_cases hin : i < ms.length
 ·obtain ⟨⟨r, f, t⟩, hx⟩ := get_of hin
  obtain ⟨r1, r2, r3, r4⟩ := hmr _ (List.mem_of_getElem? hx)
  simp only at r1 r2 r3 r4
  have hr2 : res = wntL (hldB p.H) (ms.drop (i + 1)) (wntR (hldB p.H) r (t + 1 - f).toNat f out) := by
   rw [hr, List.drop_eq_getElem_cons hin, (List.getElem?_eq_some_iff.1 hx).2];rfl
  obtain ⟨K, hK⟩ : ∃ K : Nat, K = (t + 1 - f).toNat := ⟨_, rfl⟩
  rw [← hK] at hr2
  repeat' (first|refine Sp.h ?_|refine Lk.r rfl ?_|refine Rf.mk rfl ?_|refine xA ?_|refine All.mk fun _=>?_|refine xT ?_|refine xI ?_|refine Ch.l ⟨rfl, rfl⟩ ?_|(apply SetAsk.r;focus repeat' constructor)|refine xN ?_|fail)
  rename_i b12
  refine CA.loop (fun x : Nat × List SpS × Value => ⟨[(7, .val (.map (some M))), (10, .ow x.2.2), (12, pm b12), (13, it (f + x.1)), (50, sps ms), (51, it (ms.length : Nat)), (52, it i)], arrR x.2.2 171 3 x.2.1 spanC :: blkR b12 171 (spanC (r, f, t)) :: mapR Tryz.prog M 70 (namesE Q) bl :: prR pb sp bb mb m v vc p⟩)
   (fun x => x.1 ≤ K ∧ x.2.1.length ≤ 2000 * i + x.1 ∧ res = wntL (hldB p.H) (ms.drop (i + 1)) (wntR (hldB p.H) r (K - x.1) (f + x.1) x.2.1)) (fun x => K - x.1) (0, out, u) ⟨by simp only [Int.natCast_zero, Int.add_zero];(repeat first|exact trivial|refine ⟨rfl, ?_⟩), by (repeat first|exact .nil|refine .cons (by repeat constructor) ?_)⟩ ⟨Nat.zero_le _, ho, by simpa using hr2⟩ ?_
  rintro ⟨j, out', u'⟩ ⟨hj, ho', hr3⟩
  simp only at hj ho' hr3
  simp only
  by_cases hjn : j < K
  ·have hKj : K - j = (K - (j + 1)) + 1 := by omega
   have hcast : f + (j : Int) + 1 = f + ((j + 1 : Nat) : Int) := by push_cast;omega
   have hr4 : res = wntL (hldB p.H) (ms.drop (i + 1)) (wntR (hldB p.H) r (K - (j + 1)) (f + ((j + 1 : Nat) : Int)) (wnt1 (hldB p.H) r (f + j) out')) := by
    rw [hr3, hKj, wntR, hcast]
   have hle : f + (j : Int) ≤ t := by omega
   have hk := hlk r (f + j)
   cases hb : hldB p.H r (f + j) with
   | true =>
    have hw : wnt1 (hldB p.H) r (f + j) out' = out' := if_pos hb
    rw [hw] at hr4
    rw [hb, if_pos rfl] at hk
    repeat' (first|refine Sp.h ?_|refine Lk.r rfl ?_|refine Rf.mk rfl ?_|refine xA ?_|refine xT ?_|(apply Fk.r;focus repeat' first|infer_instance|constructor)|refine xK ?_|(apply Kf.mk;(focus kernel_rfl))|refine xM ?_|(apply LkM.s;(focus first|assumption|rfl))|refine xO ?_|fail)
    exact PA.lp (j + 1, out', u') ⟨by simp only [← hcast];(repeat first|exact trivial|refine ⟨rfl, ?_⟩), by (repeat first|exact .nil|refine .cons (by repeat constructor) ?_)⟩ ⟨⟨hjn, by simp only;omega, hr4⟩, by simp only;omega⟩
   | false =>
    rw [hb, if_neg Bool.false_ne_true] at hk
    have hol : ∀ o : List SpS, o.length ≤ out'.length + 1 → o.length ≤ 2000 * i + (j + 1) := fun o h9 => by omega
    by_cases hz : out'.length = 0
    ·have hw : wnt1 (hldB p.H) r (f + j) out' = out' ++ [(r, f + (j : Int), f + (j : Int))] := by
      unfold wnt1
      rw [hb, if_neg Bool.false_ne_true, List.getElem?_eq_none (by omega)]
     rw [hw] at hr4
     repeat' (first|refine Sp.h ?_|refine Lk.r rfl ?_|refine Rf.mk rfl ?_|refine xA ?_|refine xB ?_|refine OpK.r rfl ?_|refine xP ?_|refine All.mk fun _=>?_|refine xU ?_|refine xT ?_|refine Ce.r ?_|(apply Fk.r;focus repeat' first|infer_instance|constructor)|refine Rf.mk ⟨rfl, rfl⟩ ?_|refine Rf.mk ⟨rfl, rfl, rfl⟩ ?_|refine xK ?_|(apply Kf.mk;(focus kernel_rfl))|refine xM ?_|(apply Zx.b;(focus rfl))|(apply LkM.n;(focus first|assumption|rfl))|(apply Mp.lit;(focus repeat (first|exact MpL.nil|(apply MpL.cons;(focus rfl))|(apply MpL.inv;(focus repeat constructor);(focus infer_instance)))))|refine xD ?_|refine xO ?_|fail)
     exact PA.lp (j + 1, out' ++ [(r, f + (j : Int), f + (j : Int))], _) ⟨by simp only [← hcast];(repeat first|exact trivial|refine ⟨rfl, ?_⟩), by (repeat first|exact .nil|refine .cons (by repeat constructor) ?_)⟩ ⟨⟨hjn, hol _ (by simp), hr4⟩, by simp only;omega⟩
    obtain ⟨q, hq⟩ : ∃ q : Nat, out'.length = q + 1 := ⟨out'.length - 1, by omega⟩
    obtain ⟨⟨r', f', t'⟩, hs⟩ := get_of (l := out') (i := q) (by omega)
    have hqi : (out'.length : Int) - 1 = (q : Int) := by omega
    by_cases hc : r' = r ∧ t' = f + (j : Int) - 1
    ·have hw : wnt1 (hldB p.H) r (f + j) out' = out'.set q (r', f', f + (j : Int)) := by
      unfold wnt1
      rw [hb, if_neg Bool.false_ne_true, show out'.length - 1 = q by omega, hs]
      exact if_pos hc
     rw [hw] at hr4
     obtain ⟨hc1, hc2⟩ := hc
     repeat' (first|refine Sp.h ?_|refine Lk.r rfl ?_|refine Rf.mk rfl ?_|refine xA ?_|refine OpK.r rfl ?_|refine xU ?_|refine xT ?_|(apply Ix.r;(focus assumption);(focus omega))|refine xJ ?_|refine xV ?_|(apply Fk.r;focus repeat' first|infer_instance|constructor)|(apply Up.inv;(focus repeat constructor);(focus infer_instance))|refine xK ?_|(apply Kf.mk;(focus kernel_rfl))|refine xM ?_|(apply Zx.b;(focus rfl))|(apply LkM.n;(focus first|assumption|rfl))|refine xD ?_|refine xO ?_|fail)
     all_goals exact PA.lp (j + 1, out'.set q (r', f', f + (j : Int)), u') ⟨by simp only [← hcast];(repeat first|exact trivial|refine ⟨rfl, ?_⟩), by (repeat first|exact .nil|refine .cons (by repeat constructor) ?_)⟩ ⟨⟨hjn, hol _ (by simp), hr4⟩, by simp only;omega⟩
    ·have hw : wnt1 (hldB p.H) r (f + j) out' = out' ++ [(r, f + (j : Int), f + (j : Int))] := by
      unfold wnt1
      rw [hb, if_neg Bool.false_ne_true, show out'.length - 1 = q by omega, hs]
      exact if_neg hc
     rw [hw] at hr4
     by_cases hc1 : r' = r
     ·have hc2 : ¬ t' = f + (j : Int) - 1 := fun h9 => hc ⟨hc1, h9⟩
      repeat' (first|refine Sp.h ?_|refine Lk.r rfl ?_|refine Rf.mk rfl ?_|refine xA ?_|refine xB ?_|refine OpK.r rfl ?_|refine xP ?_|refine All.mk fun _=>?_|refine xU ?_|refine xT ?_|(apply Ix.r;(focus assumption);(focus omega))|refine xJ ?_|refine Ce.r ?_|(apply Fk.r;focus repeat' first|infer_instance|constructor)|refine Rf.mk ⟨rfl, rfl⟩ ?_|refine Rf.mk ⟨rfl, rfl, rfl⟩ ?_|refine xK ?_|(apply Kf.mk;(focus kernel_rfl))|refine xM ?_|(apply Zx.b;(focus rfl))|(apply LkM.n;(focus first|assumption|rfl))|(apply Mp.lit;(focus repeat (first|exact MpL.nil|(apply MpL.cons;(focus rfl))|(apply MpL.inv;(focus repeat constructor);(focus infer_instance)))))|refine xD ?_|refine xO ?_|fail)
      all_goals exact PA.lp (j + 1, out' ++ [(r, f + (j : Int), f + (j : Int))], _) ⟨by simp only [← hcast];(repeat first|exact trivial|refine ⟨rfl, ?_⟩), by (repeat first|exact .nil|refine .cons (by repeat constructor) ?_)⟩ ⟨⟨hjn, hol _ (by simp), hr4⟩, by simp only;omega⟩
     ·repeat' (first|refine Sp.h ?_|refine Lk.r rfl ?_|refine Rf.mk rfl ?_|refine xA ?_|refine xB ?_|refine OpK.r rfl ?_|refine xP ?_|refine All.mk fun _=>?_|refine xU ?_|refine xT ?_|(apply Ix.r;(focus assumption);(focus omega))|refine xJ ?_|refine Ce.r ?_|(apply Fk.r;focus repeat' first|infer_instance|constructor)|refine Rf.mk ⟨rfl, rfl⟩ ?_|refine Rf.mk ⟨rfl, rfl, rfl⟩ ?_|refine xK ?_|(apply Kf.mk;(focus kernel_rfl))|refine xM ?_|(apply Zx.b;(focus rfl))|(apply LkM.n;(focus first|assumption|rfl))|(apply Mp.lit;(focus repeat (first|exact MpL.nil|(apply MpL.cons;(focus rfl))|(apply MpL.inv;(focus repeat constructor);(focus infer_instance)))))|refine xD ?_|refine xO ?_|fail)
      all_goals exact PA.lp (j + 1, out' ++ [(r, f + (j : Int), f + (j : Int))], _) ⟨by simp only [← hcast];(repeat first|exact trivial|refine ⟨rfl, ?_⟩), by (repeat first|exact .nil|refine .cons (by repeat constructor) ?_)⟩ ⟨⟨hjn, hol _ (by simp), hr4⟩, by simp only;omega⟩
  ·have hj9 : j = K := by omega
   have hgt : ¬ f + (j : Int) ≤ t := by omega
   have hr4 : res = wntL (hldB p.H) (ms.drop (i + 1)) out' := by
    rw [hr3, hj9, Nat.sub_self, wntR]
   repeat' (first|refine Sp.h ?_|refine Lk.r rfl ?_|refine Rf.mk rfl ?_|refine xB ?_|refine xT ?_|refine xO ?_|fail)
   exact PA.lp (i + 1, out', u') xE ⟨⟨hin, by simp only;omega, hr4⟩, by simp only;omega⟩
 ·have hr2 : res = out := by rw [hr, List.drop_eq_nil_of_le (by omega)];rfl
  rw [hr2]
  repeat' (first|refine Sp.h ?_|refine Lk.r rfl ?_|refine Rf.mk rfl ?_|refine xB ?_|refine xN ?_|fail)
  exact ⟨_, arrR u 171 3 out spanC :: prR pb sp bb mb m v vc p, .tup (.same (.same (.z))), _, rfl, rfl⟩
end Go.Proofs.YtajenkpjcbaadaaGreat
namespace Go.CF
open Go
def yl (n : Nat) (Q : Exit → Env → World → Prop) : Exit → Act → World → Prop
 | .panic _, _, _ => False
 | .outgrown, _, _ => False
 | .normal, a, w => a.defers = [] ∧ ∃ env, Agree n env a ∧ Q .normal env w
 | .ret, a, w => a.defers = [] ∧ ∃ env, Agree n env a ∧ Q .ret env w
 | .exit i, a, w => a.defers = [] ∧ ∃ env, Agree n env a ∧ Q (.exit i) env w
 | .goto i, a, w => a.defers = [] ∧ ∃ env, Agree n env a ∧ Q (.goto i) env w
structure YC (P : Program) (n : Nat) (c : Code) (Q : Exit → Env → World → Prop) (env : Env) (w : World) : Prop where
 run : ∀ a, Agree n env a → a.defers = [] → c.wpIn (wide none) 0 P (yl n Q) a w
structure YO (P : Program) (n : Nat) (ops : Array Oper) (Q : Exit → Env → World → Prop) (l : List Oper) (env : Env) (w : World) : Prop where
 run : ∀ a, Agree n env a → a.defers = [] → wpListIn (wide none) 0 P ops (yl n Q) l a w
def thn (K : Env → World → Prop) (Q : Exit → Env → World → Prop) : Exit → Env → World → Prop
 | .normal, e, w => K e w
 | x, e, w => Q x e w
def blkY (id : Nat) (Q : Exit → Env → World → Prop) : Exit → Env → World → Prop
 | .exit i, e, w => if i = id then Q .normal e w else Q (.exit i) e w
 | x, e, w => Q x e w
section
variable {P : Program} {n : Nat} {Q : Exit → Env → World → Prop} {env : Env} {w : World} {ops : Array Oper} {l : List Oper}
theorem YC.seq {x y : Code} (hx : YC P n x (thn (fun e w => YC P n y Q e w) Q) env w) : YC P n (.seq x y) Q env w := by
 refine ⟨fun a ha hd => wpIn_seq (wpIn_mono (hx.run a ha hd) fun e a1 w1 hl => ?_)⟩
 cases e <;> simp only [yl, thn, Exit.then] at hl ⊢
 case normal => obtain ⟨h1, e1, h2, h3⟩ := hl;exact h3.run a1 h2 h1
 all_goals exact hl
theorem YC.skip (hk : Q .normal env w) : YC P n .skip Q env w := ⟨fun _ ha hd => wpIn_skip ⟨hd, env, ha, hk⟩⟩
theorem YC.ret (hk : Q .ret env w) : YC P n .ret Q env w := ⟨fun _ ha hd => wpIn_ret ⟨hd, env, ha, hk⟩⟩
theorem YC.exit {i : Nat} (hk : Q (.exit i) env w) : YC P n (.exit i) Q env w := ⟨fun _ ha hd => wpIn_exit ⟨hd, env, ha, hk⟩⟩
theorem YC.cond {c : Operand} {x y : Code} {b : Bool} (hc : ev env c = some (.bool b)) (hx : b = true → YC P n x Q env w) (hy : b = false → YC P n y Q env w) : YC P n (.cond c x y) Q env w :=
 ⟨fun a ha hd => wpIn_cond_split (ha.ev hc) (fun hb => (hx hb).run a ha hd) (fun hb => (hy hb).run a ha hd)⟩
theorem YC.block {id : Nat} {c : Code} (hc : YC P n c (blkY id Q) env w) : YC P n (.block id c) Q env w := by
 refine ⟨fun a ha hd => wpIn_block (wpIn_mono (hc.run a ha hd) fun e a1 w1 hl => ?_)⟩
 cases e <;> simp only [yl, blkY, Exit.inBlock] at hl ⊢
 case exit i =>
  obtain ⟨h1, e1, h2, h3⟩ := hl
  split
  ·rename_i hi;rw [if_pos hi] at h3;exact ⟨h1, e1, h2, h3⟩
  ·rename_i hi;rw [if_neg hi] at h3;exact ⟨h1, e1, h2, h3⟩
 all_goals exact hl
theorem YC.loop {c : Code} (I : Nat → Env → World → Prop) (m0 : Nat) (h0 : I m0 env w) (round : ∀ m e w, I m e w → YC P n c (thn (fun e' w' => ∃ m', m' < m ∧ I m' e' w') Q) e w) : YC P n (.loop c) Q env w := by
 refine ⟨fun a0 ha0 hd0 b kk cs hro hb hr => ?_⟩
 have key : ∀ m e a w, I m e w → Agree n e a → a.defers = [] →
   ∃ e a' w', yl n Q e a' w' ∧ ArrivesIn (Machine.fenced P (wide none)) P (lone (b.atR a (.code c :: .inLoop c :: kk)) cs w) b kk cs e a' w' := by
  intro m
  induction m using Nat.strongRecOn with
  | _ m ih =>
   intro e a w hI hag hdf
   obtain ⟨x, a1, w1, hq, harr⟩ := (round m e w hI).run a hag hdf b (.inLoop c :: kk) cs hro hb hr
   cases x with
   | normal =>
    simp only [yl, thn] at hq
    obtain ⟨hd1, e1, hag1, m', hlt, hI'⟩ := hq
    obtain ⟨e2, a2, w2, hq2, harr2⟩ := ih m' hlt e1 a1 w1 hI' hag1 hd1
    exact ⟨e2, a2, w2, hq2, .of_steps (StepsIn.trans harr (.one (fenced_calm hb hr rfl) stepR_inLoop)) harr2⟩
   | exit id => exact ⟨(.exit id), a1, w1, (show yl n Q (.exit id) a1 w1 from hq), .pass (x := .inLoop c) rfl (fun _ _ => .inl (by simp)) harr⟩
   | goto l => exact ⟨(.goto l), a1, w1, (show yl n Q (.goto l) a1 w1 from hq), .pass (x := .inLoop c) rfl (fun _ _ => .inl (by simp)) harr⟩
   | ret => exact ⟨.ret, a1, w1, (show yl n Q .ret a1 w1 from hq), .pass (x := .inLoop c) rfl (fun _ _ => .inl (by simp)) harr⟩
   | panic ch => exact hq.elim
   | outgrown => exact hq.elim
 obtain ⟨e, a', w', hq, harr⟩ := key m0 env a0 w h0 ha0 hd0
 exact ⟨e, a', w', hq, .of_steps (.one (fenced_calm hb hr rfl) stepR_loop) harr⟩
theorem YC.region {id : Nat} (hr : YO P n l.toArray Q l env w) : YC P n (.region id l.toArray false) Q env w := ⟨fun a ha hd => wpIn_region_lit (hr.run a ha hd)⟩
theorem YO.nil (hq : Q .normal env w) : YO P n ops Q [] env w := ⟨fun _ ha hd => ⟨hd, env, ha, hq⟩⟩
theorem YO.step {o : Oper} (hg : o.guard = none) (hd : dOK n o.dst = true) (hn : ∀ c, o.op ≠ .defer c) (hs : St P n ([] : List Nat) .read o.dst o.op o.type env w.heap (fun e _ => YO P n ops Q l e w)) : YO P n ops Q (o :: l) env w := by
 obtain ⟨v, h1, h2⟩ := hs.rd rfl
 refine ⟨fun a ha hdf => wpListIn_plain hg fun K hK => ⟨fun _ _ => trivial, ?_⟩⟩
 rw [Oper.semAt_eq _ _ _ hn, exec_mk, h1 a w ha (Stp.refl _)]
 exact hK _ _ (h2.run _ (ha.put hd v) (by rw [put_dfr];exact hdf))
theorem YO.yield {o : Oper} {lp : Nat} {x : Operand} {args : Array Operand} {at' : Array TypeId} {vs : List Value} (ho : o.op = .call { callee := .value x, args := args, argTypes := at' }) (hg : o.guard = none) (hd : dOK n o.dst = true) (hx : ev env x = some (.func (.yield lp) #[] #[])) (hv : evs env args.toList = some vs)
  (hy : YieldAt Fence.wide 0 P lp vs.toArray w fun e w' => ∃ v, e = .returned v ∧ YO P n ops Q l (putE env o.dst v) w') : YO P n ops Q (o :: l) env w := by
 obtain ⟨fn, tmps, assign, body, hrun, hround⟩ := hy
 refine ⟨fun a ha hdf => wpListIn_plain hg fun K hK => ⟨fun _ _ => trivial, ?_⟩⟩
 have hargs : args.map a.eval = vs.toArray := by
  apply Array.ext'
  rw [Array.toList_map]
  exact ha.evs hv
 have h2 : (execOp a.eval (mkOp o.op o.type)).run P w = .ok (.round lp fn tmps assign body) w := by
  rw [ho]
  simp [mkOp, execOp, resolve, invoke, ha.ev hx, hargs, hrun, Deferred.ofValue]
 rw [Oper.semAt_eq _ _ _ (fun c h => by rw [ho] at h;cases h), exec_mk, h2]
 refine ⟨fun h => (by cases h), RoundIn.mono (show RoundIn (wide none) (0 - 1) P lp fn tmps assign body w _ from hround) fun e w' ⟨v, he, hk⟩ => ?_⟩
 subst he
 exact hK _ _ (hk.run _ (ha.put hd v) (by rw [put_dfr];exact hdf))
theorem YC.calls {f : FuncId} {fn : Func} {c : Code} {vs : List Value} {R : World → Prop} (hf : P.funcs[f]? = some fn) (hb : fn.body = some c) (hn : fn.ntmps = n) (hr : fn.results = #[]) (hl : Nat.ble vs.length n = true)
  (hc : YC P n c (fun e _ w' => (e = .normal ∨ e = .ret) ∧ R w') (argE 0 vs) w) : Calls P f vs.toArray w fun e w' => (∃ v, e = .returned v) ∧ R w' := by
 refine calls_of_wp hf hb ((wpIn_wide (n := 0)).1 (wpIn_mono (hc.run _ ⟨?_, fun t v hv => ?_⟩ rfl) fun e a w1 hl => ?_))
 ·have := Nat.le_of_ble_eq_true hl
  simp only [Array.size_append, List.size_toArray, Array.size_replicate, hn]
  omega
 ·obtain ⟨_, h2⟩ := look_argE vs 0 t v hv
  have hlt : t < vs.length := by
   have := (List.getElem?_eq_some_iff.1 h2).1
   omega
  rw [Array.getElem?_append_left (by simpa using hlt)]
  simpa using h2
 ·cases e <;> simp only [yl] at hl <;> simp only [bodyPost]
  case normal => obtain ⟨hd, env, ha, _, hq⟩ := hl;exact ⟨hd, _, results_none hr _ _ _, ⟨_, rfl⟩, hq⟩
  case ret => obtain ⟨hd, env, ha, _, hq⟩ := hl;exact ⟨hd, _, results_none hr _ _ _, ⟨_, rfl⟩, hq⟩
  case exit => obtain ⟨_, _, _, h, _⟩ := hl;rcases h with h|h <;> cases h
  case goto => obtain ⟨_, _, _, h, _⟩ := hl;rcases h with h|h <;> cases h
end
end Go.CF
namespace Go.Proofs.YtajenkpjcbaadaaGreat
open Go Go.CF
set_option maxRecDepth 20000
theorem sl_rows0 {α : Type} {sz : Nat} {l : List α} {f : α → List AV} {h : Heap} {G : Nat → Prop} {sv : Value} (hs : (AV.sl sz l f).R h G sv) : l.length ≤ 9223372036854775807 ∧ ∃ p cap rows, sv = .slice p l.length cap ∧ Go.CF.Rows h G sz rows l f ∧
  (0 < l.length → ∃ b o, p = some ⟨b, o, none⟩ ∧ G b ∧ b < h.size ∧ Cels h ⟨b, o, none⟩ rows.flatten) := by
 obtain ⟨hm, ⟨rfl, p, cap, rfl⟩|⟨b, o, cap, rows, rfl, h1, h2, hg, hlt, hc, hr⟩⟩ := hs
 ·exact ⟨hm, p, cap, [], rfl, Rows.nil, fun h => by simp at h⟩
 ·exact ⟨hm, _, cap, rows, rfl, hr, fun _ => ⟨b, o, rfl, hg, hlt, hc⟩⟩
theorem cels_row {h : Heap} {b o sz : Nat} {rows : List (List Value)} {i : Nat} {r : List Value} (hc : Cels h ⟨b, o, none⟩ rows.flatten) (hz : ∀ r ∈ rows, r.length = sz) (hi : rows[i]? = some r) : Cels h ⟨b, o + i * sz, none⟩ r := by
 refine ⟨fun j v hv => ?_⟩
 have h1 := hc.get (i * sz + j) v (rows_flat rows i j r v hz hi hv)
 rw [addr_add] at h1 ⊢
 rwa [Nat.add_assoc]
set_option maxHeartbeats 1000000 in
theorem upd_it (l : List (Int × Int × Int)) : ItA Tryz.prog 156 [.ad [.sl 3 l updC] 0] (l.zipIdx.reverse.map fun p => [it (p.2 : Nat), .agg (updC p.1)]) := by
 refine ⟨fun h G vs hr => ?_⟩
 match vs, hr with
 | [p], ⟨hp, _⟩ =>
 obtain ⟨b, o, cs, rfl, hgb, hbl, hc, hrl⟩ := hp
 match cs, hrl, hc with
 | [sv], hrl, hc =>
 obtain ⟨hm, q, cap, rows, rfl, hrows, hcel⟩ := sl_rows0 hrl.t.1
 have hlen := hrows.len
 refine ⟨rows.zipIdx.reverse.map fun p => [.int .i64 (p.2 : Nat), .agg p.1.toArray], by simp [hlen], fun i y x hy hx => ?_, ⟨fun lp J Jx w hC hY hJ => ?_⟩⟩
 ·simp only [List.getElem?_map, Option.map_eq_some_iff] at hy hx
  obtain ⟨⟨r, j⟩, hy, rfl⟩ := hy
  obtain ⟨⟨u, j2⟩, hx, rfl⟩ := hx
  have hil := (List.getElem?_eq_some_iff.1 hy).1
  simp only [List.length_reverse, List.length_zipIdx] at hil
  rw [List.getElem?_reverse (by simpa using hil)] at hy
  rw [List.getElem?_reverse (by simpa [← hlen] using hil)] at hx
  simp only [List.length_zipIdx, List.getElem?_zipIdx, Option.map_eq_some_iff] at hy hx
  obtain ⟨r', hr1, hr2⟩ := hy
  obtain ⟨u', hu1, hu2⟩ := hx
  simp only [Prod.mk.injEq] at hr2 hu2
  obtain ⟨rfl, rfl⟩ := hr2
  obtain ⟨rfl, rfl⟩ := hu2
  rw [← hlen] at hu1
  refine ⟨?_, ⟨_, rfl, hrows.row _ _ _ hr1 hu1⟩, trivial⟩
  show _ = _
  rw [hlen]
 ·refine (YC.calls (vs := [.func (.yield lp) #[] #[], .pointer (some ⟨b, o + 0, none⟩)]) (R := fun w' => Sm w w' ∧ (J (rows.zipIdx.reverse.map fun p => [Value.int .i64 (p.2 : Nat), .agg p.1.toArray]).length w'.heap ∨ ∃ i, i ≤ (rows.zipIdx.reverse.map fun p => [Value.int .i64 (p.2 : Nat), .agg p.1.toArray]).length ∧ Jx i w'.heap)) Tryz.func156 rfl Tryz.ntmps156 Tryz.results156 rfl ?_)
  have hy2 : ∀ i (hi : i < rows.length), (rows.zipIdx.reverse.map fun p => [Value.int .i64 (p.2 : Nat), .agg p.1.toArray])[rows.length - (i + 1)]? = some [.int .i64 (i : Nat), .agg rows[i].toArray] := fun i hi => by
   rw [List.getElem?_map, List.getElem?_reverse (by simp;omega), List.length_zipIdx, List.getElem?_zipIdx, show rows.length - 1 - (rows.length - (i + 1)) = i by omega, List.getElem?_eq_getElem hi]
   simp
  have hyl : (rows.zipIdx.reverse.map fun p => [Value.int .i64 (p.2 : Nat), .agg p.1.toArray]).length = rows.length := by simp
  rw [hyl] 
  generalize (rows.zipIdx.reverse.map fun p => [Value.int .i64 (p.2 : Nat), .agg p.1.toArray]) = ys at *
  have hstep : ∀ (e : Env) (w' : World), FPx G h w'.heap → Cels w'.heap ⟨b, o, none⟩ [.slice q l.length cap] := fun e w' hf => hc.of_block (hf.same b hgb hbl)
  have hrow : ∀ (w' : World), FPx G h w'.heap → ∀ (i : Nat) (hi : i < rows.length), ∃ b2 o2, q = some ⟨b2, o2, none⟩ ∧ Cels w'.heap ⟨b2, o2 + i * 3, none⟩ rows[i] ∧ rows[i].length = 3 := fun w' hf i hi => by
   obtain ⟨b2, o2, e1, e2, e3, e4⟩ := hcel (by omega)
   have h1 : rows[i]? = some rows[i] := List.getElem?_eq_getElem hi
   exact ⟨b2, o2, e1, cels_row (e4.of_block (hf.same b2 e2 e3)) hrows.sz h1, hrows.sz _ (List.getElem_mem _)⟩
  have hl9 : rows.length ≤ 9223372036854775807 := by omega
  have hsz : ti90.size = 3 := rfl
  refine YC.seq (YC.region ?_)
  refine YO.step rfl rfl (by intro c h;cases h) (St.load pg (ti := ti82) rfl rfl rfl ((hstep [] w (hC 0 _ hJ)).get 0 _ rfl) (by simp) rfl ?_)
  refine YO.step rfl rfl (by intro c h;cases h) (St.len pg (ti := ti82) rfl rfl rfl ?_)
  refine YO.step rfl rfl (by intro c h;cases h) (St.sub (j := 1) rfl rfl (by omega) ?_)
  refine YO.step rfl rfl (by intro c h;cases h) (St.assign rfl ?_)
  refine YO.nil ?_
  refine (YC.block (YC.loop (fun m e w' => m ≤ rows.length ∧ Go.CF.look e 0 = some (.func (.yield lp) #[] #[]) ∧ Go.CF.look e 1 = some (.pointer (some ⟨b, o + 0, none⟩)) ∧ Go.CF.look e 3 = some (.int .i64 ((m : Int) - 1)) ∧ Sm w w' ∧ J (rows.length - m) w'.heap) rows.length ?_ ?_))
  ·refine ⟨Nat.le_refl _, rfl, rfl, ?_, Sm.refl w, by rw [Nat.sub_self];exact hJ⟩
   rw [hlen];rfl
  ·rintro m e w' ⟨hm1, k0, k1, k3, hsm, hJ'⟩
   have hf := hC _ _ hJ'
   refine YC.seq (YC.seq (YC.region ?_))
   refine YO.step rfl rfl (by intro c h;cases h) (St.move k3 ?_)
   refine YO.step rfl rfl (by intro c h;cases h) (St.geq (j := 0) rfl rfl ?_)
   refine YO.nil ?_
   refine (YC.cond rfl (fun hb => YC.skip ?_) (fun hb => YC.exit ?_))
   ·have hb : (0 : Int) ≤ (m : Int) - 1 := by simpa using hb
    obtain ⟨i, rfl⟩ : ∃ i, m = i + 1 := ⟨m - 1, by omega⟩
    have k3 : Go.CF.look e 3 = some (.int .i64 (i : Nat)) := by rw [k3];congr 2;omega
    obtain ⟨b2, o2, rfl, hrc, hr3⟩ := hrow w' hf i (by omega)
    refine YC.seq (YC.block (YC.seq (YC.region ?_)))
    refine YO.step rfl rfl (by intro c h;cases h) (St.move k0 ?_)
    refine YO.step rfl rfl (by intro c h;cases h) (St.move k3 ?_)
    refine YO.step rfl rfl (by intro c h;cases h) (St.load pg (ti := ti82) rfl rfl k1 ((hstep [] w' hf).get 0 _ rfl) (by simp) rfl ?_)
    refine YO.step rfl rfl (by intro c h;cases h) (St.move k3 ?_)
    refine YO.step rfl rfl (by intro c h;cases h) (St.indexAddr (i := i) pg (ti := ti82) (te := ti90) rfl rfl rfl rfl rfl (by omega) (by omega) ?_)
    refine YO.step rfl rfl (by intro c h;cases h) (St.loadS pg (ti := ti90) rfl rfl rfl hrc (by simp) (by rw [hr3];rfl) rfl ?_)
    refine YO.yield rfl rfl rfl rfl rfl ?_
    have hyi := hy2 i (by omega)
    obtain ⟨fn, tm, asg, bd, g1, g2⟩ := hY (rows.length - (i + 1)) _ w' hyi hJ' hsm
    refine ⟨fn, tm, asg, bd, g1, g2.mono fun e' w'' ⟨q1, q2⟩ => ?_⟩
    rcases q2 with ⟨rfl, q2⟩|⟨rfl, q2⟩
    ·refine ⟨_, rfl, ?_⟩
     refine YO.step rfl rfl (by intro c h;cases h) (St.not rfl ?_)
     refine YO.nil ?_
     refine YC.cond (b := false) rfl (fun hb => by cases hb) (fun _ => YC.skip ?_)
     refine YC.region ?_
     refine YO.step rfl rfl (by intro c h;cases h) (St.move k3 ?_)
     refine YO.step rfl rfl (by intro c h;cases h) (St.sub (j := 1) rfl rfl (by omega) ?_)
     refine YO.step rfl rfl (by intro c h;cases h) (St.assign rfl ?_)
     refine YO.nil ?_
     refine ⟨i, by omega, by omega, k0, k1, rfl, hsm.trans q1, ?_⟩
     rw [show rows.length - i = rows.length - (i + 1) + 1 by omega];exact q2
    ·refine ⟨_, rfl, ?_⟩
     refine YO.step rfl rfl (by intro c h;cases h) (St.not rfl ?_)
     refine YO.nil ?_
     refine YC.cond (b := true) rfl (fun _ => YC.ret ?_) (fun hb => by cases hb)
     exact ⟨.inr rfl, hsm.trans q1, .inr ⟨_, by omega, q2⟩⟩
   ·have hb : ¬ (0 : Int) ≤ (m : Int) - 1 := by simpa using hb
    obtain rfl : m = 0 := by omega
    exact ⟨.inl rfl, hsm, .inl (by simpa using hJ')⟩
end Go.Proofs.YtajenkpjcbaadaaGreat
namespace Go.Proofs.YtajenkpjcbaadaaGreat
open Go Go.CF
set_option maxRecDepth 20000
theorem upd_seq_p (l : List UpS) : CallP Tryz.prog 124 [.sl 3 l updC] (.fn 156 [.ad [.sl 3 l updC] 0]) := by
 refine CallA.of pg ord124 Tryz.func124 rfl Tryz.ntmps124 Tryz.results124 rfl fun h0 G0 O0 => ?_
 (repeat' (first|(show CA _ _ (Code.region 1 _ _) _ _;apply Stopped.out)|refine Sp.h ?_|refine Lk.r rfl ?_|refine Rf.mk rfl ?_|refine All.mk fun _=>?_|fail));any_goals apply Stopped.mk
 rename_i b
 refine CA.freezeB 1 rfl (by repeat constructor) ?_
 repeat' (first|refine Sp.h ?_|refine Lk.r rfl ?_|refine Rf.mk rfl ?_|refine xN ?_|fail)
 exact Fin.p rfl rfl
def wrC (w : WrS) : List AV := evC w.1 ++ updC w.2
instance {e : EvS} {a b c : Int} : Inv wrC [iv e.rep, iv e.num, iv e.time, ints e.past, iv e.kind, iv e.action, iv e.gk, iv e.gi, iv e.ge, iv e.ga, iv e.to, iv e.place, iv e.serial, it a, it b, it c] (e, (a, b, c)) := ⟨rfl⟩
theorem updF_none {us : List UpS} {c : Int} (h : ∀ (i : Nat) (u : UpS), us.reverse[i]? = some u → u.2.1 ≠ c) : updF us c = none := by
 unfold updF
 refine List.find?_eq_none.2 fun u hu => ?_
 obtain ⟨i, hi⟩ := List.getElem?_of_mem hu
 simpa using h i u hi
theorem updF_some {us : List UpS} {c : Int} {i : Nat} {u : UpS} (hu : us.reverse[i]? = some u) (hc : u.2.1 = c) (h : ∀ (j : Nat) (v : UpS), j < i → us.reverse[j]? = some v → v.2.1 ≠ c) : updF us c = some u := by
 unfold updF
 have hs : us.reverse = us.reverse.take i ++ u :: us.reverse.drop (i + 1) := by
  obtain ⟨hl, e⟩ := List.getElem?_eq_some_iff.1 hu
  rw [← e, List.getElem_cons_drop, List.take_append_drop]
 rw [hs, List.find?_append, List.find?_eq_none.2 fun v hv => ?_]
 ·simp [hc]
 ·obtain ⟨j, hj⟩ := List.getElem?_of_mem hv
  have hji : j < i := by
   have := (List.getElem?_eq_some_iff.1 hj).1
   simp at this;omega
  rw [List.getElem?_take, if_pos hji] at hj
  simpa using h j v hji hj
theorem wr_snoc {m : ModS} {l : List EvS} {n i : Nat} {e : EvS} (he : l[i]? = some e) : wrF m (l.take (i + 1)) n = wrF m (l.take i) n ++ ((updE m e n).map fun u => (e, u)).toList := by
 unfold wrF
 rw [List.take_add_one, he, List.filterMap_append]
 cases h : updE m e n <;> simp [h]
theorem wr_len (m : ModS) (l : List EvS) (n : Nat) : (wrF m l n).length ≤ l.length := List.length_filterMap_le _ _
def ActOK (m : ModS) (l : List EvS) : Prop := ∀ e ∈ l, e.kind = 0 → 0 ≤ e.action ∧ e.action < m.acts.length
set_option maxHeartbeats 4000000 in
theorem writes_p (m : ModS) (l : List EvS) (n : Nat) (hl : l.length ≤ 1000) (hv : ActOK m l) : CallO Tryz.prog 61 [mdl m, evs l, it (n : Nat)] 177 16 (wrF m l n) wrC := by
 refine CallA.of pg ord61 Tryz.func61 rfl Tryz.ntmps61 Tryz.results61 rfl fun h0 G0 O0 => ?_
 (repeat' (first|(show CA _ _ (Code.block 0 _) _ _;apply Stopped.out)|refine Sp.h ?_|refine Lk.r rfl ?_|refine Rf.mk rfl ?_|refine Im.mk fun _=>?_|refine All.mk fun _=>?_|refine xN ?_|fail));any_goals apply Stopped.mk
 rename_i b3 b5 b7 hl9
 refine CA.nilCell (b := b7) (i := 0) (by repeat constructor) rfl 177 16 wrC fun v0 => ?_
 refine Sp.h ?_
 refine CA.loop (fun x : Nat × Value => ⟨[(3, pm b3), (5, pm b5), (7, pm b7), (12, evs l), (13, it (l.length : Nat)), (14, it (x.1 : Nat))],
  [arrR x.2 177 16 (wrF m (l.take x.1) n) wrC, blkR b7 125 [.ow x.2], blkR b5 3 [it (n : Nat)], blkR b3 30 (modC m)]⟩)
  (fun x => x.1 ≤ l.length) (fun x => l.length - x.1) (0, v0) xE (Nat.zero_le _) ?_
 rintro ⟨i, v⟩ hi
 simp only at hi
 by_cases hin : i < l.length
 ·obtain ⟨e, he⟩ := get_of hin
  by_cases hk : e.kind = 0
  ·obtain ⟨ha0, ha1⟩ := hv e (List.mem_of_getElem? he) hk
   obtain ⟨a, ha⟩ := get_of (l := m.acts) (i := e.action.toNat) (by omega)
   obtain ⟨q, hq⟩ : ∃ q : Nat, e.action = q := ⟨e.action.toNat, by omega⟩
   rw [hq, Int.toNat_natCast] at ha
   repeat' (first|refine Sp.h ?_|refine Lk.r rfl ?_|refine Rf.mk rfl ?_|refine xA ?_|refine All.mk fun _=>?_|refine xT ?_|refine xI ?_|(apply Ix.r;(focus assumption);(focus omega))|refine Ch.l ⟨rfl, rfl⟩ ?_|(apply SetAsk.r;focus repeat' constructor)|refine xN ?_|(apply Cl.p (upd_seq_p _);focus repeat' constructor))
   rename_i b9
   refine CA.range (xs := a.eff.updates.zipIdx.reverse.map fun p => [it (p.2 : Nat), .agg (updC p.1)]) rfl rfl (upd_it _) (fun x hx => by
    obtain ⟨p, _, rfl⟩ := List.mem_map.1 hx;rfl) rfl
    (fun j o' => (∀ (r : Nat) (u : UpS), r < j → a.eff.updates.reverse[r]? = some u → u.2.1 ≠ n) ∧ o' = [blkR b9 40 (evC e), arrR v 177 16 (wrF m (l.take i) n) wrC, blkR b7 125 [.ow v], blkR b5 3 [it (n : Nat)], blkR b3 30 (modC m)])
    (fun x o' => x = .exit 2 ∧ ∃ v' u, updF a.eff.updates n = some u ∧ o' = [arrR v' 177 16 (wrF m (l.take i) n ++ [(e, u)]) wrC, blkR b7 125 [.ow v'], blkR b5 3 [it (n : Nat)], blkR b3 30 (modC m)])
    ⟨fun r u hr => by omega, rfl⟩ ?_ ?_ ?_ ?_ ?_
   ·rintro j x o' hx ⟨hno, rfl⟩ h0' G0' O0' h0g
    rw [List.getElem?_map, Option.map_eq_some_iff] at hx
    obtain ⟨⟨⟨u1, u2, u3⟩, k⟩, hp, rfl⟩ := hx
    have hu : a.eff.updates.reverse[j]? = some (u1, u2, u3) := by
     have h1 := congrArg (Option.map Prod.fst) hp
     rw [← List.getElem?_map, List.map_reverse, List.zipIdx_map_fst] at h1
     exact h1
    repeat' (first|refine Sp.h ?_|refine Lk.r rfl ?_|refine Rf.mk rfl ?_|refine All.mk fun _=>?_|refine xT ?_|(apply SetAsk.r;focus repeat' constructor)|refine xN ?_|fail)
    apply PA.brk h0g rfl
    have hwl := wr_len m (l.take i) n
    have hwl2 : (l.take i).length ≤ l.length := List.length_take_le' _ _
    by_cases hc : u2 = (n : Int)
    ·repeat' (first|refine Sp.h ?_|refine Lk.r rfl ?_|refine Rf.mk rfl ?_|refine xA ?_|refine xP ?_|refine All.mk fun _=>?_|refine xU ?_|refine xT ?_|refine Ce.r ?_|refine Ch.l ⟨rfl, rfl⟩ ?_|refine xV ?_|(apply Fk.r;focus repeat' first|infer_instance|constructor)|refine Rf.mk ⟨rfl, rfl⟩ ?_|refine Rf.mk ⟨rfl, rfl, rfl⟩ ?_|(apply Mp.lit;(focus repeat (first|exact MpL.nil|(apply MpL.cons;(focus rfl))|(apply MpL.inv;(focus repeat constructor);(focus infer_instance)))))|fail)
     rename_i v' 
     refine PA.rd [arrR v' 177 16 (wrF m (l.take i) n ++ [(e, (u1, u2, u3))]) wrC, blkR b7 125 [.ow v'], blkR b5 3 [it (n : Nat)], blkR b3 30 (modC m)] (by (repeat first|exact .nil|refine .cons (by repeat constructor) ?_)) ⟨rfl, v', _, updF_some hu hc fun r u hr h9 => hno r u hr h9, rfl⟩
    ·repeat' (first|refine Sp.h ?_|refine Lk.r rfl ?_|refine Rf.mk rfl ?_|refine xB ?_|refine xT ?_|fail)
     refine PA.rd [blkR b9 40 (evC e), arrR v 177 16 (wrF m (l.take i) n) wrC, blkR b7 125 [.ow v], blkR b5 3 [it (n : Nat)], blkR b3 30 (modC m)] (by (repeat first|exact .nil|refine .cons (by repeat constructor) ?_)) ⟨fun r u hr h9 => ?_, rfl⟩
     rcases Nat.lt_succ_iff_lt_or_eq.1 hr with hr|rfl
     ·exact hno r u hr h9
     ·rw [hu] at h9;cases h9;exact hc
   ·rintro o' ⟨hno, rfl⟩
    have hn : updF a.eff.updates n = none := updF_none fun r u hu => hno r u (by
     have := (List.getElem?_eq_some_iff.1 hu).1
     simpa using this) hu
    have hu9 : updE m e n = none := by rw [updE, if_pos hk, usF, hq, Int.toNat_natCast, ha];exact hn
    have hs := wr_snoc (m := m) (n := n) he
    rw [hu9, Option.map_none, Option.toList_none, List.append_nil] at hs
    repeat' (first|refine Sp.h ?_|refine Lk.r rfl ?_|refine Rf.mk rfl ?_|refine xO ?_|fail)
    refine PA.lp (i + 1, v) ⟨by (repeat first|exact trivial|refine ⟨rfl, ?_⟩), ?_⟩ ⟨hin, by simp only;omega⟩
    simp only [hs]
    (repeat first|exact .nil|refine .cons (by repeat constructor) ?_)
   ·rintro o' ⟨h, _⟩;cases h
   ·rintro r o' ⟨h, v', u, hu, rfl⟩
    cases h
    have hu9 : updE m e n = some u := by rw [updE, if_pos hk, usF, hq, Int.toNat_natCast, ha];exact hu
    have hs := wr_snoc (m := m) (n := n) he
    rw [hu9] at hs
    repeat' (first|refine Sp.h ?_|refine Lk.r rfl ?_|refine Rf.mk rfl ?_|refine xO ?_|fail)
    refine PA.lp (i + 1, v') ⟨by (repeat first|exact trivial|refine ⟨rfl, ?_⟩), ?_⟩ ⟨hin, by simp only;omega⟩
    simp only [hs]
    (repeat first|exact .nil|refine .cons (by repeat constructor) ?_)
   ·rintro r o' ⟨h, _⟩;cases h
  ·have hu9 : updE m e n = none := if_neg hk
   have hs := wr_snoc (m := m) (n := n) he
   rw [hu9, Option.map_none, Option.toList_none, List.append_nil] at hs
   repeat' (first|refine Sp.h ?_|refine Lk.r rfl ?_|refine Rf.mk rfl ?_|refine xA ?_|refine xB ?_|refine All.mk fun _=>?_|refine xT ?_|refine xI ?_|refine Ch.l ⟨rfl, rfl⟩ ?_|(apply SetAsk.r;focus repeat' constructor)|refine xN ?_|refine xO ?_|fail)
   refine PA.lp (i + 1, v) ⟨by (repeat first|exact trivial|refine ⟨rfl, ?_⟩), ?_⟩ ⟨hin, by simp only;omega⟩
   simp only [hs]
   (repeat first|exact .nil|refine .cons (by repeat constructor) ?_)
 ·have : i = l.length := by omega
  subst this
  simp only [List.take_length]
  repeat' (first|refine Sp.h ?_|refine Lk.r rfl ?_|refine Rf.mk rfl ?_|refine xB ?_|refine xT ?_|refine xN ?_|fail)
  exact ⟨_, _, .one (.same (.z)), _, rfl, rfl⟩
end Go.Proofs.YtajenkpjcbaadaaGreat
namespace Go.CF
open Go
def rawR {α : Type} (sz : Nat) (L : List (List Value)) (l : List α) (f : α → List AV) : Res :=
 ⟨fun h O G => (∀ b, ¬ O b) ∧ Rows h G sz L l f, fun x ⟨ho, r⟩ => ⟨ho, r.stp (x.mono fun _ => .inr)⟩, fun x ⟨ho, r⟩ => ⟨ho, r.mono x⟩, fun ⟨ho, _⟩ b hb => absurd hb (ho b)⟩
section
variable {Γ : Cx} {k : List KI} {e : EA} {o : List Res}
theorem CA.toRows {α : Type} {y : Code} {v : Value} {T sz : Nat} {l : List α} {f : α → List AV} {rest : List Res} (tk : Take o (arrR v T sz l f) rest)
  (h : ∀ L : List (List Value), L.length = l.length → CA Γ k y e (arrR v T sz L valR :: rawR sz L l f :: rest)) : CA Γ k y e o := by
 refine ⟨fun env hh G Os cn => ?_⟩
 obtain ⟨O, Os', cn2⟩ := cn.take tk
 obtain ⟨⟨ho, rows, hw, hr⟩, hrest⟩ := cn2.hp.own
 have hv : RowsV sz rows := ⟨hr.sz, fun r hm u hu => by
  obtain ⟨j, hj⟩ := List.getElem?_of_mem hm
  obtain ⟨x, hx⟩ : ∃ x, l[j]? = some x := ⟨_, List.getElem?_eq_getElem (by rw [← hr.len];exact (List.getElem?_eq_some_iff.1 hj).1)⟩
  exact (hr.row j r x hj hx).one u hu⟩
 have hp : HpOK Γ.h0 Γ.G0 Γ.O0 (arrR v T sz rows valR :: rawR sz rows l f :: rest) hh G (O :: (fun _ => False) :: Os') := by
  refine ⟨⟨⟨ho, rows, by rw [hr.len];exact hw, hv.rows hh G⟩, ⟨fun _ h => h, hr⟩, hrest⟩, cn2.hp.g, cn2.hp.g0, fun X hX b hb => ?_, ?_, cn2.hp.fp⟩
  ·rcases List.mem_cons.1 hX with rfl|hX
   ·exact cn2.hp.o X (by simp) b hb
   ·rcases List.mem_cons.1 hX with rfl|hX
    ·exact hb.elim
    ·exact cn2.hp.o X (by simp [hX]) b hb
  ·obtain ⟨d1, d2⟩ := List.pairwise_cons.1 cn2.hp.d
   refine List.pairwise_cons.2 ⟨fun B hB b hb hb2 => ?_, List.pairwise_cons.2 ⟨fun B hB b hb _ => hb, d2⟩⟩
   rcases List.mem_cons.1 hB with rfl|hB
   ·exact hb2
   ·exact d1 B hB b hb hb2
 exact (h rows hr.len).h env hh G _ ⟨hp, cn2.env, cn2.nf⟩
theorem CA.ofRows {α : Type} {y : Code} {v : Value} {T sz : Nat} {L L' : List (List Value)} {l : List α} {f : α → List AV} {rest rest2 : List Res} (tk : Take o (arrR v T sz L' valR) rest) (tk2 : Take rest (rawR sz L l f) rest2)
  (Z : List (List Value × α)) (hZ : ∀ z ∈ Z, ∃ i : Nat, L[i]? = some z.1 ∧ l[i]? = some z.2) (h1 : Z.map (·.1) = L') (h : CA Γ k y e (arrR v T sz (Z.map (·.2)) f :: rest2)) : CA Γ k y e o := by
 refine ⟨fun env hh G Os cn => ?_⟩
 obtain ⟨O, Os', cn2⟩ := cn.take tk
 obtain ⟨⟨ho, rows, hw, hr⟩, hrest⟩ := cn2.hp.own
 obtain ⟨X, Os2, r1, r2, r3⟩ := tk2.own hrest
 have e9 := rows_val hr
 subst e9
 have hlen : rows.length = Z.length := by rw [← h1, List.length_map]
 have hrow : Rows hh G sz rows (Z.map (·.2)) f := by
  refine ⟨by rw [hlen, List.length_map], fun i r x e1 e2 => ?_, hr.sz⟩
  rw [← h1, List.getElem?_map] at e1
  rw [List.getElem?_map] at e2
  cases hz : Z[i]? with
  | none => rw [hz] at e1;cases e1
  | some z =>
   rw [hz] at e1 e2
   cases e1;cases e2
   obtain ⟨q, q1, q2⟩ := hZ z (List.mem_of_getElem? hz)
   exact r1.2.row q _ _ q1 q2
 have c4 : HpOK Γ.h0 Γ.G0 Γ.O0 (arrR v T sz rows valR :: rawR sz L l f :: rest2) hh G (O :: X :: Os2) := cn2.hp.perm ⟨cn2.hp.own.1, r1, r2⟩ (List.Perm.cons _ r3)
 have c5 : HpOK Γ.h0 Γ.G0 Γ.O0 (rawR sz L l f :: arrR v T sz rows valR :: rest2) hh G (X :: O :: Os2) := c4.perm ⟨r1, cn2.hp.own.1, r2⟩ (List.Perm.swap _ _ _)
 have c6 := c5.drop
 exact h.h env hh G (O :: Os2) ⟨c6.perm ⟨⟨ho, rows, by rw [List.length_map, ← hlen];exact hw, hrow⟩, r2⟩ (List.Perm.refl _), cn2.env, cn2.nf⟩
end
end Go.CF
namespace Go.Proofs.YtajenkpjcbaadaaGreat
open Go Go.CF
set_option maxRecDepth 20000
theorem Lend.all {o : List Res} : ∀ l : List AV, Lend o l l
 | [] => .nil
 | _ :: l => .keep (Lend.all l)
abbrev wrs (l : List WrS) : AV := .sl 16 l wrC
abbrev evW' (x : WrS) : AV := .agg (wrC x)
abbrev wrR (v : Value) (l : List WrS) : Res := arrR v 177 16 l wrC
theorem indexW_p {g : FuncId} {caps : List AV} {p : WrS → Bool} (hg : ∀ e, CallP Tryz.prog g (evW' e :: caps) (.val (.bool (p e)))) (he : en g = true) (l : List WrS) :
  CallP Tryz.prog 151 [wrs l, .fn g caps] (.val (.int .i64 (idxI p l))) := by
 refine CallA.of pg ord151 Tryz.func151 rfl Tryz.ntmps151 Tryz.results151 rfl fun h0 G0 O0 => ?_
 repeat' (first|refine Sp.h ?_|refine Lk.r rfl ?_|refine Rf.mk rfl ?_|refine Im.mk fun _=>?_|fail)
 rename_i hll
 refine CA.loop (fun i : Nat => ⟨[(0, wrs l), (1, .fn g caps), (7, .val (.int .i64 l.length)), (8, .val (.int .i64 i))], []⟩)
  (fun i => i ≤ l.length ∧ ∀ j y, j < i → l[j]? = some y → p y = false) (fun i => l.length - i) 0 xE ⟨Nat.zero_le _, fun j y h => by omega⟩ ?_
 rintro i ⟨hi, hj⟩
 by_cases hin : i < l.length
 ·obtain ⟨e, hx⟩ := get_of hin
  repeat' (first|refine Sp.h ?_|refine Lk.r rfl ?_|refine Rf.mk rfl ?_|refine xA ?_|(refine Bd.mk ?_ ?_ <;> intro _)|refine xI ?_|refine Ch.l ⟨rfl, rfl⟩ ?_|refine xN ?_|(apply Rf.mk;(focus assumption))|refine xO ?_|(apply Cl.p (hg e);(focus repeat' (first|apply Lend.keep|fail))))
  ·exact Lend.all _
  ·rename_i hp
   exact Fin.p rfl (by rw [idxI, idxN_of hx hp hj, if_pos hin])
  ·rename_i hp
   refine PA.lp (i + 1) xE ⟨⟨hin, fun j y h1 h2 => ?_⟩, by omega⟩
   by_cases hij : j = i
   ·subst hij;rw [hx] at h2;cases h2;simpa using hp
   ·exact hj j y (by omega) h2
 ·repeat' (first|refine Sp.h ?_|refine Lk.r rfl ?_|refine Rf.mk rfl ?_|refine xB ?_|refine xN ?_|fail)
  exact Fin.p rfl (by rw [idxI, idxN_none (fun x hx => by obtain ⟨j, hx⟩ := List.getElem?_of_mem hx;exact hj j x (by have := (List.getElem?_eq_some_iff.1 hx).1;omega) hx), if_neg (by omega)])
theorem containsW_p {g : FuncId} {caps : List AV} {p : WrS → Bool} (hg : ∀ e, CallP Tryz.prog g (evW' e :: caps) (.val (.bool (p e)))) (he : en g = true) (l : List WrS) :
  CallP Tryz.prog 113 [wrs l, .fn g caps] (.val (.bool (decide (idxN p l < l.length)))) := by
 refine CallA.of pg ord113 Tryz.func113 rfl Tryz.ntmps113 Tryz.results113 rfl fun h0 G0 O0 => ?_
 repeat' (first|refine Sp.h ?_|refine Lk.r rfl ?_|refine Rf.mk rfl ?_|refine xN ?_|(apply Cl.p (indexW_p hg he l);focus repeat' constructor))
 refine Fin.p rfl (vb (decide_eq_decide.2 ?_))
 unfold idxI
 split <;> omega
set_option maxHeartbeats 2000000 in
theorem deleteW_a {g : FuncId} {caps : List AV} {p : WrS → Bool} (hg : ∀ x, CallP Tryz.prog g (evW' x :: caps) (bl (p x))) (he : en g = true) (w : Value) (l : List WrS) (hl : l.length ≤ 1000000) :
  CallA Tryz.prog 108 [.ow w, .fn g caps] [wrR w l] fun q own => ∃ w', q = .ow w' ∧ own = [wrR w' (l.filter fun x => !p x)] := by
 have hix := indexW_p hg he l
 refine CallA.of pg ord108 Tryz.func108 rfl Tryz.ntmps108 Tryz.results108 rfl fun h0 G0 O0 => ?_
 repeat' (first|refine Sp.h ?_|refine Lk.r rfl ?_|refine Rf.mk rfl ?_|fail)
 (apply Cl.lend (hix);(focus repeat' (first|exact Lend.nil|apply Lend.keep|(apply Lend.lend;(focus repeat constructor);(focus first|omega|(simp;omega)))|fail)))
 by_cases hn : idxN p l < l.length
 ·have hI : idxI p l = (idxN p l : Nat) := if_pos hn
  rw [hI]
  repeat' (first|refine Sp.h ?_|refine Lk.r rfl ?_|refine Rf.mk rfl ?_|refine xB ?_|refine xO ?_|fail)
  refine CA.loop (fun x : Nat × Nat × List WrS => ⟨[(0, .ow w), (1, .fn g caps), (5, it x.1), (6, it x.2.1)], [wrR w x.2.2]⟩)
   (fun x => x.1 < x.2.1 ∧ x.2.1 ≤ l.length ∧ x.2.2.length = l.length ∧ x.2.2.take x.1 = (l.take x.2.1).filter (fun x => !p x) ∧ x.2.2.drop x.2.1 = l.drop x.2.1) (fun x => l.length - x.2.1) (idxN p l, idxN p l + 1, l) xE ⟨Nat.lt_succ_self _, hn, rfl, (filt_idx hn).symm, rfl⟩ ?_
  rintro ⟨i, j, cur⟩ ⟨h1, h2, h3, h4, h5⟩
  simp only at h1 h2 h3 h4 h5
  simp only
  by_cases hj : j < l.length
  ·obtain ⟨x, hx⟩ := get_of hj
   have hcx : cur[j]? = some x := by
    have := congrArg (fun z => z[0]?) h5
    simpa [List.getElem?_drop, hx] using this
   obtain ⟨y, hy⟩ := get_of (l := cur) (i := i) (by omega)
   have h6 : cur.drop (j + 1) = l.drop (j + 1) := by rw [← List.drop_drop, h5, List.drop_drop]
   have h7 : l.take (j + 1) = l.take j ++ [x] := by rw [List.take_add_one, hx];rfl
   repeat' (first|refine Sp.h ?_|refine Lk.r rfl ?_|refine Rf.mk rfl ?_|refine xA ?_|(refine Bd.mk ?_ ?_ <;> intro _)|refine All.mk fun _=>?_|refine xU ?_|refine xT ?_|refine xI ?_|refine xJ ?_|refine Ch.l ⟨rfl, rfl⟩ ?_|(apply SetAsk.r;focus repeat' constructor)|refine xN ?_|refine Up.r rfl ?_|(apply Rf.mk;(focus assumption))|refine xO ?_|(apply Cl.p (hg x);(focus repeat' (first|apply Lend.keep|fail))))
   ·exact Lend.all _
   ·rename_i hp
    exact PA.lp (i, j + 1, cur) xE ⟨⟨by simp only;omega, hj, h3, by simp only;rw [h7, List.filter_append, h4];simp [hp], h6⟩, by simp only;omega⟩
   ·rename_i hp
    have hp : p x = false := by simpa using hp
    have h8 : (cur.set i x).take (i + 1) = cur.take i ++ [x] := by
     rw [List.take_add_one, List.getElem?_set, if_pos rfl, if_pos (by omega), List.take_set_of_le (Nat.le_refl _)];rfl
    exact PA.lp (i + 1, j + 1, cur.set i x) xE ⟨⟨by simp only;omega, hj, by simp only;rw [List.length_set];exact h3, by simp only;rw [h7, List.filter_append, h8, h4];simp [hp], by simp only;rw [List.drop_set_of_lt (by omega)];exact h6⟩, by simp only;omega⟩
  ·have hje : j = l.length := by omega
   subst hje
   rw [List.take_length] at h4
   (repeat' (first|(show CA _ _ (Code.region 11 _ _) _ _;apply Stopped.out)|refine Sp.h ?_|refine Lk.r rfl ?_|refine Rf.mk rfl ?_|refine xB ?_|refine xU ?_|fail));any_goals apply Stopped.mk
   apply CA.toRows
   focus (repeat constructor)
   intro L hL
   apply CA.toX 0
   focus rfl
   focus (repeat constructor)
   intro hcap
   rw [h3] at hL
   (repeat' (first|(show CA _ _ Code.ret _ _;apply Stopped.out)|refine Sp.h ?_|refine Lk.r rfl ?_|refine Rf.mk rfl ?_|refine xP ?_|refine Rf.mk ⟨rfl, rfl⟩ ?_|refine Rf.mk ⟨rfl, rfl, rfl⟩ ?_|(apply Jx.r;(focus exact rfl);(focus first|omega|(simp;done)|(simp;omega)))|(apply TkX.r;(focus repeat constructor))|(apply ExX.short;(focus rfl);(focus first|omega|(simp <;> omega));(focus first|omega|(simp <;> omega)))|fail));any_goals apply Stopped.mk
   apply CA.ofRows (Z := (L.zip cur).take i)
   focus (repeat constructor)
   focus (repeat constructor)
   focus (intro z hz;obtain ⟨q, hq⟩ := List.getElem?_of_mem (List.mem_of_mem_take hz);exact ⟨q, (List.getElem?_zip_eq_some (z := z)).1 hq⟩)
   focus (rw [List.map_take, List.map_fst_zip (by omega)];simp [List.take_take])
   rw [List.map_take, List.map_snd_zip (by omega), h4]
   repeat' (first|refine Sp.h ?_|refine Lk.r rfl ?_|refine xN ?_|fail)
   exact ⟨_, _, .one (.same (.z)), _, rfl, rfl⟩
 ·have hI : idxI p l = -1 := if_neg hn
  have hall : l.filter (fun x => !p x) = l := List.filter_eq_self.2 fun x hx => by
   have h9 : ¬ ∃ x ∈ l, p x = true := fun h => hn (idxN_lt.2 h)
   cases hpx : p x
   ·rfl
   ·exact absurd ⟨x, hx, hpx⟩ h9
  rw [hI, hall]
  repeat' (first|refine Sp.h ?_|refine Lk.r rfl ?_|refine Rf.mk rfl ?_|refine xA ?_|refine xN ?_|fail)
  exact ⟨_, _, .one (.same (.z)), _, rfl, rfl⟩

theorem cloneW_o (l : List WrS) (hl : l.length ≤ 1000000000) : CallO Tryz.prog 109 [wrs l] 177 16 l wrC := by
 refine CallA.of pg ord109 Tryz.func109 rfl Tryz.ntmps109 Tryz.results109 rfl fun h0 G0 O0 => ?_
 repeat' (first|refine Sp.h ?_|refine Lk.r rfl ?_|refine Rf.mk rfl ?_|(refine Bd.mk ?_ ?_ <;> intro _)|refine xP ?_|refine Im.mk fun _=>?_|refine All.mk fun _=>?_|refine xU ?_|refine Ce.l rfl ?_|(apply Fk.r;focus repeat' first|infer_instance|constructor)|refine xN ?_|refine Rf.mk ⟨rfl, rfl⟩ ?_|refine Rf.mk ⟨rfl, rfl, rfl⟩ ?_|refine Mp.same ?_|fail)
 ·rename_i b hb hbt
  have hl0 : l = [] := Decidable.byContradiction fun h => by rw [hb h] at hbt;cases hbt
  subst hl0
  exact ⟨_, _, .one (.nils (.z)), _, rfl, rfl⟩
 ·repeat' (first|fail)
  exact ⟨_, _, .one (.same (.z)), _, rfl, rfl⟩
end Go.Proofs.YtajenkpjcbaadaaGreat
