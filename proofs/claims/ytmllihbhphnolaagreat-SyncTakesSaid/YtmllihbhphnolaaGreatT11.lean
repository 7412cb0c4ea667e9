/- Part 11 of the ground of this proof: what its texts say of the model, the program and the plain data; conditions: those that are named. -/
import Derived.Test.YtmllihbhphnolaaGreatT10
namespace Go.Proofs.YtmllihbhphnolaaGreat
open Go Go.CF
set_option maxRecDepth 20000
noncomputable def addB (c : List Int) (H : List (List Int × EvS)) (e : EvS) : Int × List EvS × List Int × List (List Int × EvS) :=
 if ¬ FormedE e ∨ e.past.length ≠ c.length then (1, [], c, H)
 else if (lookL H [e.rep, e.num]).isSome = true ∨ HasC c e.rep e.num then (6, [], c, H)
 else if RdyE c e then (0, e :: (stlF ((delL H [e.rep, e.num]).length + 1) (cntF c e) (delL H [e.rep, e.num]) []).1, (stlF ((delL H [e.rep, e.num]).length + 1) (cntF c e) (delL H [e.rep, e.num]) []).2)
 else if 256 ≤ H.length then (8, [], c, H)
 else (0, [], c, updL H [e.rep, e.num] e)
theorem stlF_len : ∀ (n : Nat) (c : List Int) (H : List (List Int × EvS)) (out : List EvS), (stlF n c H out).1.length ≤ out.length + n
 | 0, _, _, _ => Nat.le_refl _
 | n + 1, c, H, out => by
  simp only [stlF]
  split
  ·exact Nat.le_add_right _ _
  ·have := stlF_len n (cntF c ‹_›) (delL H [(‹_› : EvS).rep, (‹_› : EvS).num]) (out ++ [‹_›])
   simp only [List.length_append, List.length_cons, List.length_nil] at this
   omega
theorem mpl_id (f : EvS → List AV) : ∀ l : List EvS, MpL f id l (l.map f)
 | [] => .nil
 | _ :: l => .cons rfl (mpl_id f l)
abbrev AddN (b : Nat) (vc : Value) (mb : Nat) (c : List Int) (H : List (List Int × EvS)) (k : Int) : AV → List Res → Prop := fun r own => r = .tup [nl0, it k] ∧ own = [bufB b vc mb, clkR vc c, heldR mb H]
theorem addN_x {b : Nat} {vc : Value} {mb : Nat} {c : List Int} {H : List (List Int × EvS)} {k : Int} {xs : List AV} {own : List Res} (h : CallA Tryz.prog 110 xs own (AddN b vc mb c H k)) :
  CallA Tryz.prog 110 xs own fun r own => r = .tup [evs [], it k] ∧ own = [bufB b vc mb, clkR vc c, heldR mb H] :=
 CallA.fxr h (by rintro _ _ ⟨rfl, rfl⟩;exact ⟨_, _, .tup (.kn (.k .nil)) .nil, rfl, rfl⟩)
set_option maxHeartbeats 8000000 in
theorem dadd_a (b : Nat) (vc : Value) (mb : Nat) (c : List Int) (H : List (List Int × EvS)) (e : EvS) (h : HldOK c.length H) (hc : c.length ≤ 10) : CallA Tryz.prog 110 [pm b, evA' e] [bufB b vc mb, clkR vc c, heldR mb H] fun r own => r = .tup [evs (addB c H e).2.1, it (addB c H e).1] ∧ own = [bufB b vc mb, clkR vc (addB c H e).2.2.1, heldR mb (addB c H e).2.2.2] := by
 have h1 := dname_p e
 have h2 := formed_p e
 have h3 := hasC_p c e.rep e.num
 have h4 := dready_p c (.map (some mb)) e
 have hH := h.len
 by_cases k1 : ¬ FormedE e ∨ e.past.length ≠ c.length
 ·have hr : addB c H e = (1, [], c, H) := if_pos k1
  rw [hr]
  refine addN_x ?_
  by_cases k0 : FormedE e
  ·have k2 : ¬ (e.past.length : Int) = (c.length : Int) := by
    rcases k1 with k1|k1
    ·exact absurd k0 k1
    ·omega
   cases hlk : lookL H [e.rep, e.num]
   all_goals refine CallA.of pg ord110 Tryz.func110 rfl Tryz.ntmps110 Tryz.results110 rfl fun h0 G0 O0 => ?_
   all_goals repeat' (first|refine Sp.h ?_|refine Lk.r rfl ?_|refine Rf.mk rfl ?_|refine xA ?_|refine xB ?_|refine OpK.r rfl ?_|(refine Im.mk ?_;intro _)|(refine All.mk ?_;intro _)|refine xU ?_|refine xT ?_|refine Ch.l ⟨rfl, rfl⟩ ?_|(apply SetAsk.r;focus repeat' constructor)|refine xN ?_|refine xK ?_|(apply Kf.mk;(focus kernel_rfl))|refine xM ?_|(apply Zx.agg;(focus rfl);(focus rfl);(focus repeat constructor))|(apply LkM.s;(focus first|assumption|rfl))|(apply LkM.n;(focus first|assumption|rfl))|refine xD ?_|exact trivial|apply RA'.both|(apply Cl.p (h1);(focus ((repeat' (first|exact Lend.nil|apply Lend.keep|fail));done)))|(apply Cl.p (h2);(focus ((repeat' (first|exact Lend.nil|apply Lend.keep|fail));done)))|(apply Cl.p (h2);(focus ((repeat' (first|exact Lend.nil|apply Lend.keep|fail));done)))|(apply Cl.lend (h3);(focus ((repeat' (first|exact Lend.nil|apply Lend.keep|fail));done)))|(apply Cl.lend (h4);(focus ((repeat' (first|exact Lend.nil|apply Lend.keep|fail));done)))|(apply Cl.lend (h4);(focus ((repeat' (first|exact Lend.nil|apply Lend.keep|fail));done))))
   all_goals exact ⟨_, [bufB b vc mb, clkR vc c, heldR mb H], .tup (.same (.same (.z))), rfl, rfl⟩
  ·cases hlk : lookL H [e.rep, e.num]
   all_goals refine CallA.of pg ord110 Tryz.func110 rfl Tryz.ntmps110 Tryz.results110 rfl fun h0 G0 O0 => ?_
   all_goals repeat' (first|refine Sp.h ?_|refine Lk.r rfl ?_|refine Rf.mk rfl ?_|refine xB ?_|refine OpK.r rfl ?_|(refine All.mk ?_;intro _)|refine xT ?_|refine Ch.l ⟨rfl, rfl⟩ ?_|(apply SetAsk.r;focus repeat' constructor)|refine xN ?_|refine xK ?_|(apply Kf.mk;(focus kernel_rfl))|refine xM ?_|(apply Zx.agg;(focus rfl);(focus rfl);(focus repeat constructor))|(apply LkM.s;(focus first|assumption|rfl))|(apply LkM.n;(focus first|assumption|rfl))|refine xD ?_|exact trivial|apply RA'.both|(apply Cl.p (h1);(focus ((repeat' (first|exact Lend.nil|apply Lend.keep|fail));done)))|(apply Cl.p (h2);(focus ((repeat' (first|exact Lend.nil|apply Lend.keep|fail));done)))|(apply Cl.p (h2);(focus ((repeat' (first|exact Lend.nil|apply Lend.keep|fail));done)))|(apply Cl.lend (h3);(focus ((repeat' (first|exact Lend.nil|apply Lend.keep|fail));done)))|(apply Cl.lend (h4);(focus ((repeat' (first|exact Lend.nil|apply Lend.keep|fail));done)))|(apply Cl.lend (h4);(focus ((repeat' (first|exact Lend.nil|apply Lend.keep|fail));done))))
   all_goals exact ⟨_, [bufB b vc mb, clkR vc c, heldR mb H], .tup (.same (.same (.z))), rfl, rfl⟩
 have k0 : FormedE e := Decidable.not_not.1 fun h9 => k1 (.inl h9)
 have k2 : e.past.length = c.length := Decidable.not_not.1 fun h9 => k1 (.inr h9)
 have k3 : (e.past.length : Int) = (c.length : Int) := by omega
 by_cases q1 : (lookL H [e.rep, e.num]).isSome = true ∨ HasC c e.rep e.num
 ·have hr : addB c H e = (6, [], c, H) := by rw [addB, if_neg k1, if_pos q1]
  rw [hr]
  refine addN_x ?_
  cases hlk : lookL H [e.rep, e.num] with
  | none =>
   have q2 : HasC c e.rep e.num := by
    rcases q1 with q1|q1
    ·rw [hlk] at q1;cases q1
    ·exact q1
   refine CallA.of pg ord110 Tryz.func110 rfl Tryz.ntmps110 Tryz.results110 rfl fun h0 G0 O0 => ?_
   repeat' (first|refine Sp.h ?_|refine Lk.r rfl ?_|refine Rf.mk rfl ?_|refine xA ?_|refine OpK.r rfl ?_|(refine Im.mk ?_;intro _)|(refine All.mk ?_;intro _)|refine xU ?_|refine xT ?_|refine Ch.l ⟨rfl, rfl⟩ ?_|(apply SetAsk.r;focus repeat' constructor)|refine xN ?_|refine xK ?_|(apply Kf.mk;(focus kernel_rfl))|refine xM ?_|(apply Zx.agg;(focus rfl);(focus rfl);(focus repeat constructor))|(apply LkM.n;(focus first|assumption|rfl))|refine xD ?_|exact trivial|apply RA'.both|(apply Cl.p (h1);(focus ((repeat' (first|exact Lend.nil|apply Lend.keep|(apply Lend.lend;(focus repeat constructor);(focus first|omega|(simp;omega)))|fail));done)))|(apply Cl.p (h2);(focus ((repeat' (first|exact Lend.nil|apply Lend.keep|(apply Lend.lend;(focus repeat constructor);(focus first|omega|(simp;omega)))|fail));done)))|(apply Cl.p (h2);(focus ((repeat' (first|exact Lend.nil|apply Lend.keep|(apply Lend.lend;(focus repeat constructor);(focus first|omega|(simp;omega)))|fail));done)))|(apply Cl.lend (h3);(focus ((repeat' (first|exact Lend.nil|apply Lend.keep|(apply Lend.lend;(focus repeat constructor);(focus first|omega|(simp;omega)))|fail));done)))|(apply Cl.lend (h4);(focus ((repeat' (first|exact Lend.nil|apply Lend.keep|(apply Lend.lend;(focus repeat constructor);(focus first|omega|(simp;omega)))|fail));done)))|(apply Cl.lend (h4);(focus ((repeat' (first|exact Lend.nil|apply Lend.keep|(apply Lend.lend;(focus repeat constructor);(focus first|omega|(simp;omega)))|fail));done))))
   all_goals exact ⟨_, [bufB b vc mb, clkR vc c, heldR mb H], .tup (.same (.same (.z))), rfl, rfl⟩
  | some v =>
   refine CallA.of pg ord110 Tryz.func110 rfl Tryz.ntmps110 Tryz.results110 rfl fun h0 G0 O0 => ?_
   repeat' (first|refine Sp.h ?_|refine Lk.r rfl ?_|refine Rf.mk rfl ?_|refine xA ?_|refine OpK.r rfl ?_|(refine Im.mk ?_;intro _)|(refine All.mk ?_;intro _)|refine xU ?_|refine xT ?_|refine Ch.l ⟨rfl, rfl⟩ ?_|(apply SetAsk.r;focus repeat' constructor)|refine xN ?_|refine xK ?_|(apply Kf.mk;(focus kernel_rfl))|refine xM ?_|(apply LkM.s;(focus first|assumption|rfl))|refine xD ?_|exact trivial|apply RA'.both|(apply Cl.p (h1);(focus ((repeat' (first|exact Lend.nil|apply Lend.keep|fail));done)))|(apply Cl.p (h2);(focus ((repeat' (first|exact Lend.nil|apply Lend.keep|fail));done)))|(apply Cl.p (h2);(focus ((repeat' (first|exact Lend.nil|apply Lend.keep|fail));done)))|(apply Cl.lend (h3);(focus ((repeat' (first|exact Lend.nil|apply Lend.keep|fail));done)))|(apply Cl.lend (h4);(focus ((repeat' (first|exact Lend.nil|apply Lend.keep|fail));done)))|(apply Cl.lend (h4);(focus ((repeat' (first|exact Lend.nil|apply Lend.keep|fail));done))))
   all_goals exact ⟨_, [bufB b vc mb, clkR vc c, heldR mb H], .tup (.same (.same (.z))), rfl, rfl⟩
 have q2 : ¬ HasC c e.rep e.num := fun h9 => q1 (.inr h9)
 have hlk : lookL H [e.rep, e.num] = none := by
  cases h9 : lookL H [e.rep, e.num] with
  | none => rfl
  | some v => exact absurd (.inl (by rw [h9];rfl)) q1
 have hcl := dclone_p e (by have := k0.1.2;omega)
 by_cases q3 : RdyE c e
 ·obtain ⟨S, hS⟩ : ∃ S, S = stlF ((delL H [e.rep, e.num]).length + 1) (cntF c e) (delL H [e.rep, e.num]) [] := ⟨_, rfl⟩
  have hr : addB c H e = (0, e :: S.1, S.2) := by rw [addB, if_neg k1, if_neg q1, if_pos q3, hS]
  rw [hr]
  obtain ⟨y, hy, _⟩ := k0.2.2.1
  obtain ⟨x, hx⟩ := get_of (l := c) (i := e.rep.toNat) (by rw [← k2];exact (List.getElem?_eq_some_iff.1 hy).1)
  have hd := ddeliver_a b vc mb c H e x k0.2.1 hx
  have hcl2 : (cntF c e).length = c.length := by simp only [cntF, List.length_set]
  have hs := dsettle_a b vc mb (cntF c e) (delL H [e.rep, e.num]) (by rw [hcl2];exact h.del _) (by omega)
  rw [← hS] at hs
  have hSl : S.1.length ≤ 1000 := by
   have h9 := stlF_len ((delL H [e.rep, e.num]).length + 1) (cntF c e) (delL H [e.rep, e.num]) []
   rw [← hS] at h9
   have h8 := (delL_sub [e.rep, e.num] H).length_le
   simp only [List.length_nil] at h9
   omega
  refine CallA.fxr (K := fun r own => ∃ v, r = .tup [.ow v, it 0] ∧ own = [arrR v 37 13 (e :: S.1) evC, bufB b vc mb, clkR vc S.2.1, heldR mb S.2.2]) ?_ (by rintro _ _ ⟨v, rfl, rfl⟩;exact ⟨_, _, .tup (.s1 .here (by simp;omega) (.k .nil)) .nil, rfl, rfl⟩)
  refine CallA.of pg ord110 Tryz.func110 rfl Tryz.ntmps110 Tryz.results110 rfl fun h0 G0 O0 => ?_
  repeat' (first|refine Sp.h ?_|refine Lk.r rfl ?_|refine Rf.mk rfl ?_|refine xA ?_|refine xB ?_|refine OpK.r rfl ?_|(refine Im.mk ?_;intro _)|(refine All.mk ?_;intro _)|refine xU ?_|refine xT ?_|refine Ch.l ⟨rfl, rfl⟩ ?_|(apply SetAsk.r;focus repeat' constructor)|refine xN ?_|refine xK ?_|(apply Kf.mk;(focus kernel_rfl))|refine xM ?_|(apply Zx.agg;(focus rfl);(focus rfl);(focus repeat constructor))|(apply LkM.n;(focus first|assumption|rfl))|refine xD ?_|exact trivial|apply RA'.both|(apply Cl.p (h1);(focus ((repeat' (first|exact Lend.nil|apply Lend.keep|(apply Lend.lend;(focus repeat constructor);(focus first|omega|(simp;omega)))|(apply Lend.cell;(focus repeat constructor))|fail));done)))|(apply Cl.p (h2);(focus ((repeat' (first|exact Lend.nil|apply Lend.keep|(apply Lend.lend;(focus repeat constructor);(focus first|omega|(simp;omega)))|(apply Lend.cell;(focus repeat constructor))|fail));done)))|(apply Cl.p (hcl);(focus ((repeat' (first|exact Lend.nil|apply Lend.keep|(apply Lend.lend;(focus repeat constructor);(focus first|omega|(simp;omega)))|(apply Lend.cell;(focus repeat constructor))|fail));done)))|(apply Cl.lend (h3);(focus ((repeat' (first|exact Lend.nil|apply Lend.keep|(apply Lend.lend;(focus repeat constructor);(focus first|omega|(simp;omega)))|(apply Lend.cell;(focus repeat constructor))|fail));done)))|(apply Cl.lend (h4);(focus ((repeat' (first|exact Lend.nil|apply Lend.keep|(apply Lend.lend;(focus repeat constructor);(focus first|omega|(simp;omega)))|(apply Lend.cell;(focus repeat constructor))|fail));done)))|(apply Cl.lend (h4);(focus ((repeat' (first|exact Lend.nil|apply Lend.keep|(apply Lend.lend;(focus repeat constructor);(focus first|omega|(simp;omega)))|(apply Lend.cell;(focus repeat constructor))|fail));done))))
  all_goals refine xW (hd) ?_
  all_goals rintro _ _ ⟨rfl, rfl⟩
  all_goals repeat' (first|refine Sp.h ?_|refine Lk.r rfl ?_|refine Rf.mk rfl ?_|(refine All.mk ?_;intro _)|refine xT ?_|refine Ch.l ⟨rfl, rfl⟩ ?_|(apply Fk.r;focus repeat' first|infer_instance|constructor)|refine Rf.mk ⟨rfl, rfl, rfl⟩ ?_|(apply Cl.p (hcl);(focus repeat' (first|exact Lend.nil|apply Lend.keep|fail))))
  all_goals refine xW (hs) ?_
  all_goals rintro _ _ ⟨v, rfl, rfl⟩
  all_goals repeat' (first|refine Sp.h ?_|refine Lk.r rfl ?_|refine Rf.mk rfl ?_|refine xU ?_|refine Ce.r ?_|refine Rf.mk ⟨rfl, rfl⟩ ?_|(apply Mp.lit;(focus repeat (first|exact MpL.nil|(apply MpL.cons;(focus rfl))|(apply MpL.inv;(focus repeat constructor);(focus infer_instance)))))|fail)
  any_goals exact mpl_id evC S.1
  all_goals refine ⟨by rw [List.length_map];simp [chunk];omega, ?_⟩
  all_goals (repeat' (first|(show CA _ _ Code.ret _ _;apply Stopped.out)|refine Sp.h ?_|refine Lk.r rfl ?_|(refine All.mk ?_;intro _)|fail));any_goals apply Stopped.mk
  all_goals refine CA.retype (by repeat constructor) (e :: S.1) evC (by simp [chunk];rfl) ?_
  all_goals repeat' (first|refine Sp.h ?_|refine Lk.r rfl ?_|refine xN ?_|fail)
  all_goals exact ⟨_, [arrR _ 37 13 (e :: S.1) evC, bufB b vc mb, clkR vc S.2.1, heldR mb S.2.2], .tup (.same (.same (.z))), _, rfl, rfl⟩
 by_cases q4 : 256 ≤ H.length
 ·have hr : addB c H e = (8, [], c, H) := by rw [addB, if_neg k1, if_neg q1, if_neg q3, if_pos q4]
  rw [hr]
  refine addN_x ?_
  refine CallA.of pg ord110 Tryz.func110 rfl Tryz.ntmps110 Tryz.results110 rfl fun h0 G0 O0 => ?_
  repeat' (first|refine Sp.h ?_|refine Lk.r rfl ?_|refine Rf.mk rfl ?_|refine xA ?_|refine xB ?_|refine OpK.r rfl ?_|(refine Im.mk ?_;intro _)|(refine All.mk ?_;intro _)|refine xU ?_|refine xT ?_|refine Ch.l ⟨rfl, rfl⟩ ?_|(apply SetAsk.r;focus repeat' constructor)|refine xN ?_|refine xK ?_|(apply Kf.mk;(focus kernel_rfl))|refine xM ?_|(apply Zx.agg;(focus rfl);(focus rfl);(focus repeat constructor))|(apply LkM.n;(focus first|assumption|rfl))|refine xD ?_|exact trivial|apply RA'.both|(apply Cl.p (h1);(focus ((repeat' (first|exact Lend.nil|apply Lend.keep|(apply Lend.lend;(focus repeat constructor);(focus first|omega|(simp;omega)))|(apply Lend.cell;(focus repeat constructor))|fail));done)))|(apply Cl.p (h2);(focus ((repeat' (first|exact Lend.nil|apply Lend.keep|(apply Lend.lend;(focus repeat constructor);(focus first|omega|(simp;omega)))|(apply Lend.cell;(focus repeat constructor))|fail));done)))|(apply Cl.p (h2);(focus ((repeat' (first|exact Lend.nil|apply Lend.keep|(apply Lend.lend;(focus repeat constructor);(focus first|omega|(simp;omega)))|(apply Lend.cell;(focus repeat constructor))|fail));done)))|(apply Cl.lend (h3);(focus ((repeat' (first|exact Lend.nil|apply Lend.keep|(apply Lend.lend;(focus repeat constructor);(focus first|omega|(simp;omega)))|(apply Lend.cell;(focus repeat constructor))|fail));done)))|(apply Cl.lend (h4);(focus ((repeat' (first|exact Lend.nil|apply Lend.keep|(apply Lend.lend;(focus repeat constructor);(focus first|omega|(simp;omega)))|(apply Lend.cell;(focus repeat constructor))|fail));done)))|(apply Cl.lend (h4);(focus ((repeat' (first|exact Lend.nil|apply Lend.keep|(apply Lend.lend;(focus repeat constructor);(focus first|omega|(simp;omega)))|(apply Lend.cell;(focus repeat constructor))|fail));done))))
  all_goals exact ⟨_, [bufB b vc mb, clkR vc c, heldR mb H], .tup (.same (.same (.z))), rfl, rfl⟩
 ·have hr : addB c H e = (0, [], c, updL H [e.rep, e.num] e) := by rw [addB, if_neg k1, if_neg q1, if_neg q3, if_neg q4]
  rw [hr]
  refine addN_x ?_
  refine CallA.of pg ord110 Tryz.func110 rfl Tryz.ntmps110 Tryz.results110 rfl fun h0 G0 O0 => ?_
  repeat' (first|refine Sp.h ?_|refine Lk.r rfl ?_|refine Rf.mk rfl ?_|refine xA ?_|refine xB ?_|refine OpK.r rfl ?_|(refine Im.mk ?_;intro _)|(refine All.mk ?_;intro _)|refine xU ?_|refine xT ?_|refine Ch.l ⟨rfl, rfl⟩ ?_|(apply SetAsk.r;focus repeat' constructor)|refine xN ?_|refine xK ?_|(apply Kf.mk;(focus kernel_rfl))|refine xM ?_|refine UpV.r rfl ?_|(apply Zx.agg;(focus rfl);(focus rfl);(focus repeat constructor))|(apply LkM.n;(focus first|assumption|rfl))|refine xD ?_|exact trivial|apply RA'.both|(apply Cl.p (h1);(focus ((repeat' (first|exact Lend.nil|apply Lend.keep|(apply Lend.lend;(focus repeat constructor);(focus first|omega|(simp;omega)))|(apply Lend.cell;(focus repeat constructor))|fail));done)))|(apply Cl.p (h2);(focus ((repeat' (first|exact Lend.nil|apply Lend.keep|(apply Lend.lend;(focus repeat constructor);(focus first|omega|(simp;omega)))|(apply Lend.cell;(focus repeat constructor))|fail));done)))|(apply Cl.p (hcl);(focus ((repeat' (first|exact Lend.nil|apply Lend.keep|(apply Lend.lend;(focus repeat constructor);(focus first|omega|(simp;omega)))|(apply Lend.cell;(focus repeat constructor))|fail));done)))|(apply Cl.lend (h3);(focus ((repeat' (first|exact Lend.nil|apply Lend.keep|(apply Lend.lend;(focus repeat constructor);(focus first|omega|(simp;omega)))|(apply Lend.cell;(focus repeat constructor))|fail));done)))|(apply Cl.lend (h4);(focus ((repeat' (first|exact Lend.nil|apply Lend.keep|(apply Lend.lend;(focus repeat constructor);(focus first|omega|(simp;omega)))|(apply Lend.cell;(focus repeat constructor))|fail));done)))|(apply Cl.lend (h4);(focus ((repeat' (first|exact Lend.nil|apply Lend.keep|(apply Lend.lend;(focus repeat constructor);(focus first|omega|(simp;omega)))|(apply Lend.cell;(focus repeat constructor))|fail));done))))
  all_goals exact ⟨_, [bufB b vc mb, clkR vc c, heldR mb (updL H [e.rep, e.num] e)], .tup (.same (.same (.z))), rfl, rfl⟩
end Go.Proofs.YtmllihbhphnolaaGreat
namespace Go.Proofs.YtmllihbhphnolaaGreat
open Go Go.CF
set_option maxRecDepth 20000
theorem foldE_succ {m : ModS} {l : List EvS} {i : Nat} {e : EvS} (h : l[i]? = some e) (s : List Int) : (l.take (i + 1)).foldl (addE m) s = addE m ((l.take i).foldl (addE m) s) e := by
 rw [List.take_add_one, h, Option.toList_some, List.foldl_append];rfl
end Go.Proofs.YtmllihbhphnolaaGreat
namespace Go.Proofs.YtmllihbhphnolaaGreat
open Go Go.CF
set_option maxRecDepth 20000
theorem deliver_bad {m : ModS} {evl : List EvS} {w : NowS} {e : EvS} (h : ¬ (deliverF m evl w e).1 = 0) : (deliverF m evl w e).2 = w := by
 unfold deliverF at h ⊢
 repeat' split
 all_goals first
  | rfl
  | (exfalso;simp_all;done)
end Go.Proofs.YtmllihbhphnolaaGreat
namespace Go.Proofs.YtmllihbhphnolaaGreat
open Go Go.CF
set_option maxRecDepth 20000
theorem cntF_len (c : List Int) (e : EvS) : (cntF c e).length = c.length := by simp only [cntF, List.length_set]
theorem stlF_ind {N : Nat} (P : List Int → List (List Int × EvS) → List EvS → Prop)
  (hs : ∀ c H out p, HldOK N H → P c H out → p ∈ H → RdyE c p.2 → P (cntF c p.2) (delL H [p.2.rep, p.2.num]) (out ++ [p.2])) :
  ∀ (n : Nat) (c : List Int) (H : List (List Int × EvS)) (out : List EvS), HldOK N H → P c H out → HldOK N (stlF n c H out).2.2 ∧ P (stlF n c H out).2.1 (stlF n c H out).2.2 (stlF n c H out).1
 | 0, c, H, out, hH, h => ⟨hH, h⟩
 | n + 1, c, H, out, hH, h => by
  simp only [stlF]
  cases he : (ordE (H.map (·.2)))[idxN (rdyB c) (ordE (H.map (·.2)))]? with
  | none => exact ⟨hH, h⟩
  | some e =>
   obtain ⟨x, h1, h2, _⟩ := idxN_at (List.getElem?_eq_some_iff.1 he).1
   rw [he] at h1;cases h1
   obtain ⟨p, hp, rfl⟩ := List.mem_map.1 (ordE_mem.1 (List.mem_of_getElem? he))
   exact stlF_ind P hs n _ _ _ (hH.del _) (hs c H out p hH h hp (of_decide_eq_true h2))
theorem stlF_hld {N : Nat} {H : List (List Int × EvS)} (h : HldOK N H) (n : Nat) (c : List Int) (out : List EvS) : HldOK N (stlF n c H out).2.2 :=
 (stlF_ind (fun _ _ _ => True) (fun _ _ _ _ _ _ _ _ => trivial) n c H out h trivial).1
theorem stlF_clk {N : Nat} {H : List (List Int × EvS)} (h : HldOK N H) (n : Nat) (c : List Int) (out : List EvS) : (stlF n c H out).2.1.length = c.length :=
 (stlF_ind (fun d _ _ => d.length = c.length) (fun _ _ _ _ _ h1 _ _ => by rw [cntF_len];exact h1) n c H out h rfl).2
theorem stlF_sum {N : Nat} {H : List (List Int × EvS)} (h : HldOK N H) (n : Nat) (c : List Int) (out : List EvS) : (stlF n c H out).1.length + (stlF n c H out).2.2.length = out.length + H.length :=
 (stlF_ind (fun _ K o => o.length + K.length = out.length + H.length) (fun d K o p hK h1 hp _ => by
  have := delL_len (k := [p.2.rep, p.2.num]) ⟨p, hp, hK.key p hp⟩
  rw [List.length_append];simp only [List.length_cons, List.length_nil];omega) n c H out h rfl).2
theorem stlF_mem {N : Nat} {H : List (List Int × EvS)} (h : HldOK N H) (n : Nat) (c : List Int) (out : List EvS) : (∀ e ∈ (stlF n c H out).1, e ∈ out ∨ ∃ p ∈ H, p.2 = e) ∧ ∀ p ∈ (stlF n c H out).2.2, p ∈ H :=
 (stlF_ind (fun _ K o => (∀ e ∈ o, e ∈ out ∨ ∃ p ∈ H, p.2 = e) ∧ ∀ p ∈ K, p ∈ H) (fun d K o p hK h1 hp _ => ⟨fun e he => by
  rcases List.mem_append.1 he with he|he
  ·exact h1.1 e he
  ·rw [List.mem_singleton.1 he];exact .inr ⟨p, h1.2 p hp, rfl⟩, fun q hq => h1.2 q ((delL_sub _ _).mem hq)⟩) n c H out h ⟨fun e he => .inl he, fun p hp => hp⟩).2
/-! ### Adding -/
structure AddOK (N : Nat) (H : List (List Int × EvS)) (e : EvS) (r : Int × List EvS × List Int × List (List Int × EvS)) : Prop where
 clk : r.2.2.1.length = N
 hld : HldOK N r.2.2.2
 sum : r.2.1.length + r.2.2.2.length ≤ H.length + 1
 out : ∀ x ∈ r.2.1, x = e ∨ ∃ p ∈ H, p.2 = x
 mem : ∀ p ∈ r.2.2.2, p ∈ H ∨ p.2 = e
theorem addOK_id {N : Nat} {c : List Int} {H : List (List Int × EvS)} (e : EvS) (k : Int) (h : HldOK N H) (hc : c.length = N) : AddOK N H e (k, [], c, H) :=
 ⟨hc, h, by simp, fun x hx => by simp at hx, fun p hp => .inl hp⟩
theorem rep_rng {e : EvS} (h : FormedE e) : 0 ≤ e.rep ∧ e.rep < (e.past.length : Int) := by
 obtain ⟨_, f2, ⟨x, f3, _⟩, _⟩ := h
 have := (List.getElem?_eq_some_iff.1 f3).1
 exact ⟨f2, by omega⟩
theorem HldOK.ins {N : Nat} {H : List (List Int × EvS)} (h : HldOK N H) {e : EvS} (hf : FormedE e) (hl : e.past.length = N) (hn : lookL H [e.rep, e.num] = none) (hlen : H.length < 256) : HldOK N (updL H [e.rep, e.num] e) := by
 rw [updL_none _ _ _ hn]
 have hr := rep_rng hf
 have hne : ∀ p ∈ H, nm p.2 ≠ nm e := fun p hp h9 => by
  have h8 := h.key p hp
  unfold lookL at hn
  rw [Option.map_eq_none_iff, List.find?_eq_none] at hn
  exact hn p hp (by rw [h8];exact decide_eq_true h9)
 have hall : ∀ p ∈ H ++ [([e.rep, e.num], e)], p ∈ H ∨ p = ([e.rep, e.num], e) := fun p hp => by
  rcases List.mem_append.1 hp with hp|hp
  ·exact .inl hp
  ·exact .inr (List.mem_singleton.1 hp)
 refine ⟨fun p hp => ?_, fun p hp => ?_, fun p hp => ?_, by simp;omega, ?_⟩
 ·rcases hall p hp with hp|rfl
  ·exact h.rep p hp
  ·exact ⟨hr.1, by rw [← hl];exact hr.2⟩
 ·rcases hall p hp with hp|rfl
  ·exact h.key p hp
  ·rfl
 ·rcases hall p hp with hp|rfl
  ·exact h.fm p hp
  ·exact hf.1.2.2
 ·rw [List.map_append]
  refine uniq_pair.2 (List.pairwise_append.2 ⟨uniq_pair.1 h.nd, by simp, fun a ha b hb => ?_⟩)
  obtain ⟨p, hp, rfl⟩ := List.mem_map.1 ha
  rw [List.map_singleton, List.mem_singleton] at hb
  subst hb
  exact hne p hp
theorem addB_ok {N : Nat} {c : List Int} {H : List (List Int × EvS)} (e : EvS) (h : HldOK N H) (hc : c.length = N) : AddOK N H e (addB c H e) := by
 unfold addB
 by_cases k1 : ¬ FormedE e ∨ e.past.length ≠ c.length
 ·rw [if_pos k1];exact addOK_id e _ h hc
 rw [if_neg k1]
 have k0 : FormedE e := Decidable.not_not.1 fun h9 => k1 (.inl h9)
 have k2 : e.past.length = c.length := Decidable.not_not.1 fun h9 => k1 (.inr h9)
 by_cases q1 : (lookL H [e.rep, e.num]).isSome = true ∨ HasC c e.rep e.num
 ·rw [if_pos q1];exact addOK_id e _ h hc
 rw [if_neg q1]
 have hlk : lookL H [e.rep, e.num] = none := by
  cases h9 : lookL H [e.rep, e.num] with
  | none => rfl
  | some v => exact absurd (.inl (by rw [h9];rfl)) q1
 by_cases q3 : RdyE c e
 ·rw [if_pos q3]
  have hd := h.del [e.rep, e.num]
  have h2 := stlF_sum hd ((delL H [e.rep, e.num]).length + 1) (cntF c e) []
  have h3 := stlF_mem hd ((delL H [e.rep, e.num]).length + 1) (cntF c e) []
  have h4 := (delL_sub [e.rep, e.num] H).length_le
  refine ⟨by rw [stlF_clk hd, cntF_len];exact hc, stlF_hld hd _ _ _, ?_, fun x hx => ?_, fun p hp => .inl ((delL_sub _ _).mem (h3.2 p hp))⟩
  ·simp only [List.length_cons, List.length_nil] at h2 ⊢;omega
  ·rcases List.mem_cons.1 hx with rfl|hx
   ·exact .inl rfl
   ·rcases h3.1 x hx with hx|⟨p, hp, rfl⟩
    ·cases hx
    ·exact .inr ⟨p, (delL_sub _ _).mem hp, rfl⟩
 rw [if_neg q3]
 by_cases q4 : 256 ≤ H.length
 ·rw [if_pos q4];exact addOK_id e _ h hc
 rw [if_neg q4]
 refine ⟨hc, h.ins k0 (by omega) hlk (by omega), ?_, fun x hx => by simp at hx, fun p hp => ?_⟩
 ·rw [updL_none _ _ _ hlk];simp
 ·rw [updL_none _ _ _ hlk] at hp
  rcases List.mem_append.1 hp with hp|hp
  ·exact .inl hp
  ·rw [List.mem_singleton.1 hp];exact .inr rfl
/-! ### Peers -/
structure PrS where
 s : StoS
 c : List Int
 H : List (List Int × EvS)
 err : Int
noncomputable def dlvF (m : ModS) : List EvS → StoS → List EvS → Int × StoS × List EvS
 | [], s, out => (0, s, out)
 | x :: xs, s, out => if (deliverF m s.evs s.now x).1 = 0 then dlvF m xs ⟨s.base, s.evs ++ [x], (deliverF m s.evs s.now x).2⟩ (out ++ [x]) else ((deliverF m s.evs s.now x).1, s, out)
noncomputable def takF (m : ModS) : List EvS → PrS → List EvS → Int × PrS × List EvS
 | [], p, out => (0, p, out)
 | e :: l, p, out => if ¬ EvV m (p.s.now.clock.length : Nat) e then (1, p, out) else
  if (dlvF m (addB p.c p.H e).2.1 p.s out).1 = 0 then takF m l ⟨(dlvF m (addB p.c p.H e).2.1 p.s out).2.1, (addB p.c p.H e).2.2.1, (addB p.c p.H e).2.2.2, p.err⟩ (dlvF m (addB p.c p.H e).2.1 p.s out).2.2
  else ((dlvF m (addB p.c p.H e).2.1 p.s out).1, ⟨(dlvF m (addB p.c p.H e).2.1 p.s out).2.1, (addB p.c p.H e).2.2.1, (addB p.c p.H e).2.2.2, (dlvF m (addB p.c p.H e).2.1 p.s out).1⟩, (dlvF m (addB p.c p.H e).2.1 p.s out).2.2)
noncomputable def takeF (m : ModS) (l : List EvS) (p : PrS) : Int × PrS × List EvS := if p.err ≠ 0 then (9, p, []) else takF m l p []
structure PrOK (m : ModS) (N B : Nat) (p : PrS) : Prop where
 now : NowOK m p.s.now
 n : p.s.now.clock.length = N
 c : p.c.length = N
 hld : HldOK N p.H
 sz : p.s.evs.length + p.H.length ≤ B
 pl : p.s.now.places.length + p.H.length ≤ B
theorem deliver_len {m : ModS} {evl : List EvS} {w : NowS} {e : EvS} (h : (deliverF m evl w e).1 = 0) : (deliverF m evl w e).2.clock.length = w.clock.length ∧ (deliverF m evl w e).2.places = plE w.places e := by
 unfold deliverF at h ⊢
 repeat' split
 all_goals first
  | (exfalso;simp_all;done)
  | exact ⟨cntF_len _ _, rfl⟩
structure StK (m : ModS) (N B : Nat) (s : StoS) (k : Nat) : Prop where
 now : NowOK m s.now
 n : s.now.clock.length = N
 sz : s.evs.length + k ≤ B
 pl : s.now.places.length + k ≤ B
theorem StK.next {m : ModS} {N B k : Nat} {s : StoS} {x : EvS} (h : StK m N B s (k + 1)) (hB : B ≤ 100000) (hd : (deliverF m s.evs s.now x).1 = 0) : StK m N B ⟨s.base, s.evs ++ [x], (deliverF m s.evs s.now x).2⟩ k := by
 have h1 := h.sz;have h2 := h.pl
 have h3 := deliver_len hd
 have h4 := (plE_srt (e := x) h.now.pls).2
 refine ⟨now_deliver h.now (by omega) hd, by simp only;rw [h3.1];exact h.n, by simp;omega, ?_⟩
 simp only [h3.2]
 omega
theorem StK.mono {m : ModS} {N B k j : Nat} {s : StoS} (h : StK m N B s k) (hj : j ≤ k) : StK m N B s j := ⟨h.now, h.n, Nat.le_trans (Nat.add_le_add_left hj _) h.sz, Nat.le_trans (Nat.add_le_add_left hj _) h.pl⟩
theorem dlvF_ok {m : ModS} {N B k : Nat} (hB : B ≤ 100000) : ∀ (X : List EvS) (s : StoS) (out : List EvS), StK m N B s (X.length + k) → StK m N B (dlvF m X s out).2.1 k
 | [], s, out, h => h.mono (by simp)
 | x :: X, s, out, h => by
  simp only [dlvF]
  split
  ·rename_i hd
   exact dlvF_ok hB X _ _ (StK.next (h.mono (by simp only [List.length_cons];omega)) hB hd)
  ·exact h.mono (by simp only [List.length_cons];omega)
theorem dlvF_len (m : ModS) : ∀ (X : List EvS) (s : StoS) (out : List EvS), (dlvF m X s out).2.2.length ≤ out.length + X.length
 | [], s, out => by simp [dlvF]
 | x :: X, s, out => by
  simp only [dlvF]
  split
  ·have := dlvF_len m X ⟨s.base, s.evs ++ [x], (deliverF m s.evs s.now x).2⟩ (out ++ [x])
   simp only [List.length_append, List.length_cons, List.length_nil] at this ⊢
   omega
  ·simp
theorem PrOK.add {m : ModS} {N B : Nat} {p : PrS} (h : PrOK m N B p) (e : EvS) : AddOK N p.H e (addB p.c p.H e) ∧ StK m N (B + 1) p.s ((addB p.c p.H e).2.1.length + (addB p.c p.H e).2.2.2.length) := by
 have ha := addB_ok e h.hld h.c
 have h1 := h.sz;have h2 := h.pl;have h3 := ha.sum
 exact ⟨ha, h.now, h.n, by omega, by omega⟩
theorem PrOK.of {m : ModS} {N B : Nat} {s : StoS} {c : List Int} {H : List (List Int × EvS)} {k : Int} (h : StK m N B s H.length) (hc : c.length = N) (hH : HldOK N H) : PrOK m N B ⟨s, c, H, k⟩ := ⟨h.now, h.n, hc, hH, h.sz, h.pl⟩
theorem PrOK.mono {m : ModS} {N B B' : Nat} {p : PrS} (h : PrOK m N B p) (hb : B ≤ B') : PrOK m N B' p := ⟨h.now, h.n, h.c, h.hld, Nat.le_trans h.sz hb, Nat.le_trans h.pl hb⟩
theorem takF_ok {m : ModS} {N : Nat} : ∀ (l : List EvS) (B : Nat) (p : PrS) (out : List EvS), PrOK m N B p → B + l.length ≤ 90000 → PrOK m N (B + l.length) (takF m l p out).2.1
 | [], B, p, out, h, _ => h
 | e :: l, B, p, out, h, hB => by
  obtain ⟨ha, hs⟩ := h.add e
  simp only [List.length_cons] at hB ⊢
  have hd := dlvF_ok (by omega) (addB p.c p.H e).2.1 p.s out hs
  simp only [takF]
  split
  ·exact h.mono (by omega)
  ·split
   ·have := takF_ok l (B + 1) _ (dlvF m (addB p.c p.H e).2.1 p.s out).2.2 (PrOK.of (k := p.err) hd ha.clk ha.hld) (by omega)
    rw [show B + (l.length + 1) = B + 1 + l.length by omega]
    exact this
   ·exact (PrOK.of hd ha.clk ha.hld).mono (by omega)
theorem takeF_ok {m : ModS} {N B : Nat} {l : List EvS} {p : PrS} (h : PrOK m N B p) (hB : B + l.length ≤ 90000) : PrOK m N (B + l.length) (takeF m l p).2.1 := by
 unfold takeF
 split
 ·exact h.mono (by omega)
 ·exact takF_ok l B p [] h hB
theorem takF_len {m : ModS} {N : Nat} : ∀ (l : List EvS) (p : PrS) (out : List EvS), HldOK N p.H → p.c.length = N → (takF m l p out).2.2.length ≤ out.length + p.H.length + l.length
 | [], p, out, h, hc => by simp only [takF, List.length_nil];omega
 | e :: l, p, out, h, hc => by
  have ha := addB_ok e h hc
  have h1 := ha.sum
  have h2 := dlvF_len m (addB p.c p.H e).2.1 p.s out
  simp only [takF, List.length_cons]
  split
  ·simp only;omega
  ·split
   ·have := takF_len (m := m) l ⟨(dlvF m (addB p.c p.H e).2.1 p.s out).2.1, (addB p.c p.H e).2.2.1, (addB p.c p.H e).2.2.2, p.err⟩ (dlvF m (addB p.c p.H e).2.1 p.s out).2.2 ha.hld ha.clk
    simp only at this
    omega
   ·simp only;omega
abbrev prR (pb sp bb mb : Nat) (m : ModS) (v vc : Value) (p : PrS) : List Res := [blkR pb 185 [pm sp, pm bb, it p.err], stoR sp m p.s.base v p.s.now, arrR v 37 13 p.s.evs evC, bufB bb vc mb, clkR vc p.c, heldR mb p.H]
end Go.Proofs.YtmllihbhphnolaaGreat
namespace Go.Proofs.YtmllihbhphnolaaGreat
open Go Go.CF
set_option maxRecDepth 20000
theorem dheld_a (b : Nat) (vc : Value) (mb : Nat) (c : List Int) (H : List (List Int × EvS)) {N : Nat} (h : HldOK N H) : CallA Tryz.prog 116 [pm b] [bufB b vc mb, clkR vc c, heldR mb H] fun r own => r = evs (ordE (H.map (·.2))) ∧ own = [bufB b vc mb, clkR vc c, heldR mb H] := by
 have h1 := dlist_a b vc mb c H h
 refine CallA.of pg ord116 Tryz.func116 rfl Tryz.ntmps116 Tryz.results116 rfl fun h0 G0 O0 => ?_
 repeat' (first|refine Sp.h ?_|refine Lk.r rfl ?_|refine Rf.mk rfl ?_|fail)
 refine xW (h1) ?_
 rintro _ _ ⟨rfl, rfl⟩
 repeat' (first|refine Sp.h ?_|refine Lk.r rfl ?_|refine xN ?_|fail)
 exact ⟨_, [bufB b vc mb, clkR vc c, heldR mb H], .one (.same (.z)), rfl, rfl⟩
theorem dnew_a (c : List Int) (h : ValC c) : CallA Tryz.prog 101 [ints c] [] fun r own => ∃ bb vc mb, r = .tup [pm bb, it 0] ∧ own = [bufB bb vc mb, clkR vc c, heldR mb []] := by
 have h1 := validC_p c
 rw [decide_eq_true h] at h1
 have h2 := clone_o c (by have := h.2.2;omega)
 refine CallA.of pg ord101 Tryz.func101 rfl Tryz.ntmps101 Tryz.results101 rfl fun h0 G0 O0 => ?_
 repeat' (first|refine Sp.h ?_|refine Lk.r rfl ?_|refine Rf.mk rfl ?_|refine xA ?_|(apply Cl.p (h1);(focus repeat' (first|exact Lend.nil|apply Lend.keep|fail))))
 (refine Cl.use (h2) (by repeat' (first|exact Lend.nil|apply Lend.keep|fail)) .nil rfl ?_;rintro _ _ ⟨_, rfl, rfl⟩)
 repeat' (first|refine Sp.h ?_|refine Lk.r rfl ?_|refine Rf.mk rfl ?_|fail)
 refine MkM.r evA' ?_
 refine ⟨fun M => ?_⟩
 repeat' (first|refine Sp.h ?_|refine Lk.r rfl ?_|refine Rf.mk rfl ?_|(refine All.mk ?_;intro _)|(apply Fk.r;focus repeat' first|infer_instance|constructor)|refine xN ?_|fail)
 exact ⟨_, [bufB _ _ M, clkR _ c, heldR M []], .tup (.same (.same (.z))), _, _, _, rfl, rfl⟩
set_option maxHeartbeats 8000000 in
theorem take_a (pb sp bb mb : Nat) (m : ModS) (v vc : Value) (N B : Nat) (p : PrS) (l : List EvS) (hm : MOK m) (h : PrOK m N B p) (hN : N ≤ 5) (hB : B + l.length ≤ 90000) :
  CallA Tryz.prog 39 [pm pb, evs l] (prR pb sp bb mb m v vc p) fun r own => r = .tup [evs (takeF m l p).2.2, it (takeF m l p).1] ∧ ∃ v', own = prR pb sp bb mb m v' vc (takeF m l p).2.1 := by
 by_cases he : p.err = 0
 rotate_left
 ·have hr : takeF m l p = (9, p, []) := if_pos he
  rw [hr]
  refine CallA.fxr (K := fun r own => r = .tup [nl0, it 9] ∧ own = prR pb sp bb mb m v vc p) ?_ (by rintro _ _ ⟨rfl, rfl⟩;exact ⟨_, _, .tup (.kn (.k .nil)) .nil, rfl, v, rfl⟩)
  refine CallA.of pg ord39 Tryz.func39 rfl Tryz.ntmps39 Tryz.results39 rfl fun h0 G0 O0 => ?_
  repeat' (first|refine Sp.h ?_|refine Lk.r rfl ?_|refine Rf.mk rfl ?_|refine xB ?_|refine xT ?_|refine xN ?_|fail)
  exact ⟨_, prR pb sp bb mb m v vc p, .tup (.same (.same (.z))), rfl, rfl⟩
 obtain ⟨res, hres⟩ : ∃ res, res = takF m l p [] := ⟨_, rfl⟩
 have hr : takeF m l p = res := by rw [takeF, if_neg (fun h9 => h9 he), hres]
 rw [hr]
 have hlen : res.2.2.length ≤ 100000 := by
  have h1 := takF_len (m := m) l p [] h.hld h.c
  rw [← hres] at h1
  have h2 := h.sz
  simp only [List.length_nil] at h1
  omega
 refine CallA.fxr (K := fun r own => ∃ u v', r = .tup [.ow u, it res.1] ∧ own = arrR u 37 13 res.2.2 evC :: prR pb sp bb mb m v' vc res.2.1) ?_ (by rintro _ _ ⟨u, v', rfl, rfl⟩;exact ⟨_, _, .tup (.s1 .here (by omega) (.k .nil)) .nil, rfl, v', rfl⟩)
 refine CallA.of pg ord39 Tryz.func39 rfl Tryz.ntmps39 Tryz.results39 rfl fun h0 G0 O0 => ?_
 repeat' (first|refine Sp.h ?_|refine Lk.r rfl ?_|refine Rf.mk rfl ?_|refine xA ?_|(refine Im.mk ?_;intro _)|refine xT ?_|fail)
 refine CA.nilOwn 6 37 13 evC rfl fun u0 => ?_
 refine CA.loop (fun x : Nat × PrS × List EvS × Value × Value => ⟨[(0, pm pb), (6, .ow x.2.2.2.1), (19, evs l), (20, it (l.length : Nat)), (21, it x.1)], arrR x.2.2.2.1 37 13 x.2.2.1 evC :: prR pb sp bb mb m x.2.2.2.2 vc x.2.1⟩)
  (fun x => x.1 ≤ l.length ∧ PrOK m N (B + x.1) x.2.1 ∧ x.2.1.err = 0 ∧ x.2.2.1.length ≤ 1000 * x.1 ∧ res = takF m (l.drop x.1) x.2.1 x.2.2.1) (fun x => l.length - x.1) (0, p, [], u0, v) xE ⟨Nat.zero_le _, h, he, by simp, hres⟩ ?_
 rintro ⟨i, ⟨⟨b, evl, w⟩, c, H, er⟩, out, u, v⟩ ⟨hi, hp, rfl, ho, hr⟩
 simp only at hi hp ho hr
 simp only
 by_cases hin : i < l.length
 ·obtain ⟨e, hx⟩ := get_of hin
  have hva := svalid_p sp m b v w e
  have hadd := dadd_a bb vc mb c H e (by rw [hp.c];exact hp.hld) (by rw [hp.c];omega)
  repeat' (first|refine Sp.h ?_|refine Lk.r rfl ?_|refine Rf.mk rfl ?_|refine xA ?_|refine OpK.r rfl ?_|(refine All.mk ?_;intro _)|refine xT ?_|refine xI ?_|refine Ch.l ⟨rfl, rfl⟩ ?_|(apply SetAsk.r;focus repeat' constructor)|refine xN ?_|refine xD ?_|fail)
  refine xW (hva) ?_
  rintro _ _ ⟨rfl, rfl⟩
  by_cases hv : EvV m (w.clock.length : Nat) e
  rotate_left
  ·have hr2 : res = (1, ⟨⟨b, evl, w⟩, c, H, 0⟩, out) := by
    rw [hr, List.drop_eq_getElem_cons hin, (List.getElem?_eq_some_iff.1 hx).2]
    simp only [takF, if_pos hv]
   rw [hr2]
   simp only [decide_eq_false hv]
   repeat' (first|refine Sp.h ?_|refine Lk.r rfl ?_|refine Rf.mk rfl ?_|refine xB ?_|refine OpK.r rfl ?_|refine xN ?_|fail)
   exact ⟨_, arrR u 37 13 out evC :: prR pb sp bb mb m v vc ⟨⟨b, evl, w⟩, c, H, 0⟩, .tup (.same (.same (.z))), _, v, rfl, rfl⟩
  simp only [decide_eq_true hv]
  obtain ⟨A, hA⟩ : ∃ A, A = addB c H e := ⟨_, rfl⟩
  obtain ⟨ha, hs⟩ := hp.add e
  simp only [← hA] at hadd ha hs
  have hAl := ha.sum
  have hHl := hp.hld.len
  simp only at hHl
  obtain ⟨D, hD⟩ : ∃ D, D = dlvF m A.2.1 ⟨b, evl, w⟩ out := ⟨_, rfl⟩
  have hr2 : res = if D.1 = 0 then takF m (l.drop (i + 1)) ⟨D.2.1, A.2.2.1, A.2.2.2, 0⟩ D.2.2 else (D.1, ⟨D.2.1, A.2.2.1, A.2.2.2, D.1⟩, D.2.2) := by
   rw [hr, List.drop_eq_getElem_cons hin, (List.getElem?_eq_some_iff.1 hx).2]
   simp only [takF, ← hA, ← hD]
   exact if_neg (fun h9 => h9 hv)
  repeat' (first|refine Sp.h ?_|refine Lk.r rfl ?_|refine Rf.mk rfl ?_|refine xA ?_|refine OpK.r rfl ?_|refine xT ?_|refine Ch.l ⟨rfl, rfl⟩ ?_|refine xD ?_|fail)
  refine xW (hadd) ?_
  rintro _ _ ⟨rfl, rfl⟩
  repeat' (first|refine Sp.h ?_|refine Lk.r rfl ?_|refine Rf.mk rfl ?_|refine OpK.r rfl ?_|(refine Im.mk ?_;intro _)|fail)
  refine CA.loop (fun x : Nat × StoS × List EvS × Value × Value => ⟨[(0, pm pb), (6, .ow x.2.2.2.1), (19, evs l), (20, it (l.length : Nat)), (21, it i), (42, evs A.2.1), (43, it (A.2.1.length : Nat)), (44, it x.1)], arrR x.2.2.2.1 37 13 x.2.2.1 evC :: prR pb sp bb mb m x.2.2.2.2 vc ⟨x.2.1, A.2.2.1, A.2.2.2, 0⟩⟩)
   (fun x => x.1 ≤ A.2.1.length ∧ StK m N (B + i + 1) x.2.1 (A.2.1.length - x.1 + A.2.2.2.length) ∧ x.2.2.1.length ≤ 1000 * i + x.1 ∧ D = dlvF m (A.2.1.drop x.1) x.2.1 x.2.2.1) (fun x => A.2.1.length - x.1) (0, ⟨b, evl, w⟩, out, u, v) xE ⟨Nat.zero_le _, hs, ho, hD⟩ ?_
  rintro ⟨j, ⟨b', evl', w'⟩, out', u', v'⟩ ⟨hj, hS, hol, hD2⟩
  simp only at hj hS hol hD2
  simp only
  by_cases hjn : j < A.2.1.length
  ·obtain ⟨y, hy⟩ := get_of hjn
   have hdl := deliver_a sp m b' v' evl' w' y hm hS.now (by have := hS.sz;simp only at this;omega)
   repeat' (first|refine Sp.h ?_|refine Lk.r rfl ?_|refine Rf.mk rfl ?_|refine xA ?_|refine OpK.r rfl ?_|(refine All.mk ?_;intro _)|refine xT ?_|refine xI ?_|refine Ch.l ⟨rfl, rfl⟩ ?_|(apply SetAsk.r;focus repeat' constructor)|refine xN ?_|refine xD ?_|fail)
   refine xW (hdl) ?_
   rintro _ _ ⟨rfl, v2, rfl⟩
   by_cases hk : (deliverF m evl' w' y).1 = 0
   ·have hD3 : D = dlvF m (A.2.1.drop (j + 1)) ⟨b', evl' ++ [y], (deliverF m evl' w' y).2⟩ (out' ++ [y]) := by
     rw [hD2, List.drop_eq_getElem_cons hjn, (List.getElem?_eq_some_iff.1 hy).2]
     simp only [dlvF, if_pos hk]
    rw [evsD, if_pos hk]
    repeat' (first|refine Sp.h ?_|refine Lk.r rfl ?_|refine Rf.mk rfl ?_|refine xA ?_|refine OpK.r rfl ?_|refine xP ?_|(refine All.mk ?_;intro _)|refine xU ?_|refine xT ?_|refine Ce.r ?_|refine Ch.l ⟨rfl, rfl⟩ ?_|(apply Fk.r;focus repeat' first|infer_instance|constructor)|refine Rf.mk ⟨rfl, rfl⟩ ?_|refine Rf.mk ⟨rfl, rfl, rfl⟩ ?_|(apply Mp.lit;(focus repeat (first|exact MpL.nil|(apply MpL.cons;(focus rfl))|(apply MpL.inv;(focus repeat constructor);(focus infer_instance)))))|refine xO ?_|fail)
    refine PA.lp (j + 1, ⟨b', evl' ++ [y], (deliverF m evl' w' y).2⟩, out' ++ [y], _, v2) xE ⟨⟨hjn, StK.next (hS.mono (by omega)) (by omega) hk, by simp only [List.length_append, List.length_cons, List.length_nil];omega, hD3⟩, by simp only;omega⟩
   ·have hD3 : D = ((deliverF m evl' w' y).1, ⟨b', evl', w'⟩, out') := by
     rw [hD2, List.drop_eq_getElem_cons hjn, (List.getElem?_eq_some_iff.1 hy).2]
     simp only [dlvF, if_neg hk]
    rw [hD3, if_neg hk] at hr2
    rw [evsD, if_neg hk, deliver_bad hk, hr2]
    repeat' (first|refine Sp.h ?_|refine Lk.r rfl ?_|refine Rf.mk rfl ?_|refine xB ?_|refine OpK.r rfl ?_|refine xT ?_|refine xV ?_|refine xN ?_|fail)
    exact ⟨_, arrR u' 37 13 out' evC :: prR pb sp bb mb m v2 vc ⟨⟨b', evl', w'⟩, A.2.2.1, A.2.2.2, (deliverF m evl' w' y).1⟩, .tup (.same (.same (.z))), _, v2, rfl, rfl⟩
  ·have hD3 : D = (0, ⟨b', evl', w'⟩, out') := by
    rw [hD2, List.drop_eq_nil_of_le (by omega)];rfl
   rw [hD3, if_pos rfl] at hr2
   repeat' (first|refine Sp.h ?_|refine Lk.r rfl ?_|refine Rf.mk rfl ?_|refine xB ?_|refine xO ?_|fail)
   refine PA.lp (i + 1, ⟨⟨b', evl', w'⟩, A.2.2.1, A.2.2.2, 0⟩, out', u', v') xE ⟨⟨hin, PrOK.of (hS.mono (by omega)) ha.clk ha.hld, rfl, by simp only;omega, hr2⟩, by simp only;omega⟩
 ·have hr2 : res = (0, ⟨⟨b, evl, w⟩, c, H, 0⟩, out) := by
   rw [hr, List.drop_eq_nil_of_le (by omega)];rfl
  rw [hr2]
  repeat' (first|refine Sp.h ?_|refine Lk.r rfl ?_|refine Rf.mk rfl ?_|refine xB ?_|refine xN ?_|fail)
  exact ⟨_, arrR u 37 13 out evC :: prR pb sp bb mb m v vc ⟨⟨b, evl, w⟩, c, H, 0⟩, .tup (.same (.same (.z))), _, v, rfl, rfl⟩
end Go.Proofs.YtmllihbhphnolaaGreat
namespace Go.Proofs.YtmllihbhphnolaaGreat
open Go Go.CF
set_option maxRecDepth 20000
abbrev SpS := Int × Int × Int
abbrev sps (l : List SpS) : AV := .sl 3 l spanC
def mis1 (a b : List Int) (i : Nat) : List SpS := match a[i]?, b[i]? with
 | some x, some y => if x < y then [((i : Int), x + 1, y)] else []
 | _, _ => []
def misN (a b : List Int) : Nat → List SpS
 | 0 => []
 | i + 1 => misN a b i ++ mis1 a b i
def misF (a b : List Int) : List SpS := misN a b a.length
theorem misN_len (a b : List Int) : ∀ i, (misN a b i).length ≤ i
 | 0 => Nat.le_refl _
 | i + 1 => by
  have := misN_len a b i
  have h1 : (mis1 a b i).length ≤ 1 := by
   unfold mis1
   repeat' split
   all_goals simp
  simp only [misN, List.length_append];omega
theorem misN_mem {a b : List Int} : ∀ {i : Nat} {s : SpS}, s ∈ misN a b i ↔ ∃ j x y, j < i ∧ a[j]? = some x ∧ b[j]? = some y ∧ x < y ∧ s = ((j : Int), x + 1, y)
 | 0, s => by simp [misN]
 | i + 1, s => by
  simp only [misN, List.mem_append, misN_mem (i := i)]
  constructor
  ·rintro (⟨j, x, y, h1, h2⟩|h)
   ·exact ⟨j, x, y, by omega, h2⟩
   ·unfold mis1 at h
    cases hx : a[i]? with
    | none => simp [hx] at h
    | some x =>
     cases hy : b[i]? with
     | none => simp [hx, hy] at h
     | some y =>
      simp only [hx, hy] at h
      split at h
      ·rw [List.mem_singleton] at h
       exact ⟨i, x, y, by omega, hx, hy, by assumption, h⟩
      ·cases h
  ·rintro ⟨j, x, y, h1, h2, h3, h4, rfl⟩
   by_cases hj : j = i
   ·subst hj
    right
    simp only [mis1, h2, h3, if_pos h4, List.mem_singleton]
   ·exact .inl ⟨j, x, y, by omega, h2, h3, h4, rfl⟩
theorem missing_e (a b : List Int) (ha : ValC a) (hb : ValC b) (hab : a.length = b.length) : CallO Tryz.prog 89 [ints a, ints b] 106 3 (misF a b) spanC := by
 have hal : AlikeC [a, b] := (alike2 a b).2 ⟨ha, hb, hab⟩
 have h1 := alike_p [a, b]
 rw [decide_eq_true hal] at h1
 refine CallA.of pg ord89 Tryz.func89 rfl Tryz.ntmps89 Tryz.results89 rfl fun h0 G0 O0 => ?_
 repeat' (first|refine Sp.h ?_|refine Lk.r rfl ?_|refine Rf.mk rfl ?_|(refine All.mk ?_;intro _)|(apply Fk.r;focus repeat' first|infer_instance|constructor)|refine Rf.mk ⟨rfl, rfl, rfl⟩ ?_|fail)
 rename_i w
 (apply Cl.lend (h1);(focus repeat' (first|exact Lend.nil|(apply Lend.lendm;(focus repeat constructor);(focus rfl);(focus first|omega|decide|(simp;omega)|exact Nat.le_of_ble_eq_true rfl))|fail)))
 repeat' (first|refine Sp.h ?_|refine Lk.r rfl ?_|refine Rf.mk rfl ?_|refine xA ?_|(refine Im.mk ?_;intro _)|fail)
 refine CA.nilOwn 5 106 3 spanC rfl fun w2 => ?_
 refine CA.loop (fun x : Nat × Value => ⟨[(0, ints a), (1, ints b), (13, .val (.int .i64 a.length)), (14, .val (.int .i64 x.1)), (5, .ow x.2)], [arrR x.2 106 3 (misN a b x.1) spanC]⟩)
  (fun x => x.1 ≤ a.length) (fun x => a.length - x.1) (0, w2) xE (Nat.zero_le _) ?_
 rintro ⟨i, v⟩ hi
 simp only at hi
 have hva3 := ha.2
 have hml := misN_len a b i
 by_cases hin : i < a.length
 ·obtain ⟨x, hx⟩ := get_of hin
  obtain ⟨y, hy⟩ := get_of (l := b) (i := i) (by omega)
  have hrx := ha.1 x (List.mem_of_getElem? hx)
  unfold rngK at hrx
  by_cases hxy : x < y
  ·have hm : misN a b (i + 1) = misN a b i ++ [((i : Int), x + 1, y)] := by simp only [misN, mis1, hx, hy, if_pos hxy]
   repeat' (first|refine Sp.h ?_|refine Lk.r rfl ?_|refine Rf.mk rfl ?_|refine xA ?_|refine OpK.r rfl ?_|refine xP ?_|(refine All.mk ?_;intro _)|refine xU ?_|refine xI ?_|refine Ce.r ?_|(apply Fk.r;focus repeat' first|infer_instance|constructor)|refine Rf.mk ⟨rfl, rfl⟩ ?_|refine Rf.mk ⟨rfl, rfl, rfl⟩ ?_|(apply Mp.lit;(focus repeat (first|exact MpL.nil|(apply MpL.cons;(focus rfl))|(apply MpL.inv;(focus repeat constructor);(focus infer_instance)))))|refine xD ?_|refine xO ?_|fail)
   rename_i v2
   refine PA.lp (i + 1, v2) ⟨by rw [hm];(repeat first|exact trivial|refine ⟨rfl, ?_⟩), by rw [hm];(repeat first|exact .nil|refine .cons (by repeat constructor) ?_)⟩ ⟨hin, by simp only;omega⟩
  ·have hm : misN a b (i + 1) = misN a b i := by simp only [misN, mis1, hx, hy, if_neg hxy, List.append_nil]
   repeat' (first|refine Sp.h ?_|refine Lk.r rfl ?_|refine Rf.mk rfl ?_|refine xA ?_|refine xB ?_|refine OpK.r rfl ?_|refine xI ?_|refine xD ?_|refine xO ?_|fail)
   refine PA.lp (i + 1, v) ⟨by rw [hm];(repeat first|exact trivial|refine ⟨rfl, ?_⟩), by rw [hm];(repeat first|exact .nil|refine .cons (by repeat constructor) ?_)⟩ ⟨hin, by simp only;omega⟩
 ·have : i = a.length := by omega
  subst this
  repeat' (first|refine Sp.h ?_|refine Lk.r rfl ?_|refine Rf.mk rfl ?_|refine xB ?_|refine xN ?_|fail)
  exact ⟨_, _, .one (.same (.z)), v, rfl, rfl⟩
theorem missing_p (a b : List Int) (ha : ValC a) (hb : ValC b) (hab : a.length = b.length) : CallP Tryz.prog 89 [ints a, ints b] (sps (misF a b)) :=
 CallA.fz (by have := misN_len a b a.length;have := ha.2.2;unfold misF;omega) (missing_e a b ha hb hab)
end Go.Proofs.YtmllihbhphnolaaGreat
namespace Go.Proofs.YtmllihbhphnolaaGreat
open Go Go.CF
set_option maxRecDepth 20000
def wnt1 (hb : Int → Int → Bool) (r n : Int) (out : List SpS) : List SpS := if hb r n = true then out else match out[out.length - 1]? with
 | some s => if s.1 = r ∧ s.2.2 = n - 1 then out.set (out.length - 1) (s.1, s.2.1, n) else out ++ [(r, n, n)]
 | none => out ++ [(r, n, n)]
def wntR (hb : Int → Int → Bool) (r : Int) : Nat → Int → List SpS → List SpS
 | 0, _, out => out
 | k + 1, n, out => wntR hb r k (n + 1) (wnt1 hb r n out)
def wntL (hb : Int → Int → Bool) : List SpS → List SpS → List SpS
 | [], out => out
 | s :: l, out => wntL hb l (wntR hb s.1 (s.2.2 + 1 - s.2.1).toNat s.2.1 out)
noncomputable def hldB (H : List (List Int × EvS)) (r n : Int) : Bool := decide (∃ p ∈ H, p.2.rep = r ∧ p.2.num = n)
noncomputable def wantsF (c : List Int) (H : List (List Int × EvS)) (theirs : List Int) : Int × List SpS := if ValC theirs ∧ theirs.length = c.length then (0, wntL (hldB H) (misF c theirs) []) else (1, [])
def namesE (l : List EvS) : List (List Int × Bool) := l.map fun e => (nm e, true)
theorem namesE_look (l : List EvS) (r n : Int) : lookL (namesE l) [r, n] = if (∃ e ∈ l, e.rep = r ∧ e.num = n) then some true else none := by
 unfold lookL namesE
 cases hf : (l.map fun e => (nm e, true)).find? fun p => decide (p.1 = [r, n]) with
 | none =>
  rw [List.find?_eq_none] at hf
  rw [if_neg (fun ⟨e, he, h1, h2⟩ => hf (nm e, true) (List.mem_map.2 ⟨e, he, rfl⟩) (decide_eq_true (by rw [← h1, ← h2];rfl)))]
  rfl
 | some p =>
  obtain ⟨e, he, rfl⟩ := List.mem_map.1 (List.mem_of_find?_eq_some hf)
  have h1 : nm e = [r, n] := by have := List.find?_some hf;exact of_decide_eq_true this
  simp only [nm, List.cons.injEq, and_true] at h1
  rw [if_pos ⟨e, he, h1.1, h1.2⟩]
  rfl
theorem namesE_app {l : List EvS} (hu : Uniq l) {i : Nat} {e : EvS} (he : l[i]? = some e) : updL (namesE (l.take i)) [e.rep, e.num] true = namesE (l.take (i + 1)) := by
 rw [updL_none _ _ _ ?_, List.take_add_one, he]
 ·simp [namesE, nm]
 ·rw [namesE_look, if_neg]
  rintro ⟨x, hx, h1, h2⟩
  obtain ⟨j, hj⟩ := List.getElem?_of_mem hx
  have hji : j < i := by
   by_cases h9 : j < i
   ·exact h9
   ·rw [List.getElem?_take, if_neg h9] at hj;cases hj
  rw [List.getElem?_take_of_lt hji] at hj
  have := hu j i x e hj he (by simp [nm, h1, h2])
  omega
theorem wnt1_len (hb : Int → Int → Bool) (r n : Int) (out : List SpS) : (wnt1 hb r n out).length ≤ out.length + 1 := by
 unfold wnt1
 repeat' split
 all_goals simp
theorem wntR_len (hb : Int → Int → Bool) (r : Int) : ∀ (k : Nat) (n : Int) (out : List SpS), (wntR hb r k n out).length ≤ out.length + k
 | 0, n, out => Nat.le_refl _
 | k + 1, n, out => by
  have h1 := wnt1_len hb r n out
  have h2 := wntR_len hb r k (n + 1) (wnt1 hb r n out)
  rw [wntR];omega
theorem wntL_len (hb : Int → Int → Bool) : ∀ (l : List SpS) (out : List SpS), (∀ s ∈ l, (s.2.2 + 1 - s.2.1).toNat ≤ 1024) → (wntL hb l out).length ≤ out.length + 1024 * l.length
 | [], out, _ => by simp [wntL]
 | s :: l, out, h => by
  have h1 := wntR_len hb s.1 (s.2.2 + 1 - s.2.1).toNat s.2.1 out
  have h2 := wntL_len hb l (wntR hb s.1 (s.2.2 + 1 - s.2.1).toNat s.2.1 out) fun x hx => h x (List.mem_cons_of_mem _ hx)
  have h3 := h s List.mem_cons_self
  rw [wntL, List.length_cons];omega
theorem hldB_ord {N : Nat} {H : List (List Int × EvS)} (h : HldOK N H) (r n : Int) : (∃ e ∈ ordE (H.map (·.2)), e.rep = r ∧ e.num = n) ↔ hldB H r n = true := by
 unfold hldB
 rw [decide_eq_true_iff]
 constructor
 ·rintro ⟨e, he, h1⟩
  obtain ⟨p, hp, rfl⟩ := List.mem_map.1 (ordE_mem.1 he)
  exact ⟨p, hp, h1⟩
 ·rintro ⟨p, hp, h1⟩
  exact ⟨p.2, ordE_mem.2 (List.mem_map_of_mem hp), h1⟩
theorem ordE_nd {l : List EvS} (h : Uniq l) : Uniq (ordE l) := uniq_perm (ordE_perm l) h
set_option maxHeartbeats 8000000 in
theorem wants_a (pb sp bb mb : Nat) (m : ModS) (v vc : Value) (N B : Nat) (p : PrS) (th : List Int) (h : PrOK m N B p) :
  CallA Tryz.prog 51 [pm pb, ints th] (prR pb sp bb mb m v vc p) fun r own => r = .tup [sps (wantsF p.s.now.clock p.H th).2, it (wantsF p.s.now.clock p.H th).1] ∧ own = prR pb sp bb mb m v vc p := by
 have hcv := h.now.clk
 have hcl := hcv.2.2
 have hck := sclock_p sp m p.s.base v p.s.now (by omega)
 have hva := validC_p th
 by_cases hok : ValC th ∧ th.length = p.s.now.clock.length
 rotate_left
 ·have hr : wantsF p.s.now.clock p.H th = (1, []) := if_neg hok
  rw [hr]
  refine CallA.fxr (K := fun r own => r = .tup [nl0, it 1] ∧ own = prR pb sp bb mb m v vc p) ?_ (by rintro _ _ ⟨rfl, rfl⟩;exact ⟨_, _, .tup (.kn (.k .nil)) .nil, rfl, rfl⟩)
  by_cases hv : ValC th
  ·have hne : ¬ ((th.length : Int) = (p.s.now.clock.length : Int)) := fun h9 => hok ⟨hv, by omega⟩
   rw [decide_eq_true hv] at hva
   refine CallA.of pg ord51 Tryz.func51 rfl Tryz.ntmps51 Tryz.results51 rfl fun h0 G0 O0 => ?_
   repeat' (first|refine Sp.h ?_|refine Lk.r rfl ?_|refine Rf.mk rfl ?_|refine xT ?_|fail)
   refine xW (hck) ?_
   rintro _ _ ⟨rfl, rfl⟩
   repeat' (first|refine Sp.h ?_|refine Lk.r rfl ?_|refine Rf.mk rfl ?_|refine xA ?_|refine xB ?_|(refine Im.mk ?_;intro _)|refine xN ?_|(apply Cl.p (hva);(focus repeat' (first|exact Lend.nil|apply Lend.keep|fail))))
   exact ⟨_, prR pb sp bb mb m v vc p, .tup (.same (.same (.z))), rfl, rfl⟩
  ·rw [decide_eq_false hv] at hva
   refine CallA.of pg ord51 Tryz.func51 rfl Tryz.ntmps51 Tryz.results51 rfl fun h0 G0 O0 => ?_
   repeat' (first|refine Sp.h ?_|refine Lk.r rfl ?_|refine Rf.mk rfl ?_|refine xT ?_|fail)
   refine xW (hck) ?_
   rintro _ _ ⟨rfl, rfl⟩
   repeat' (first|refine Sp.h ?_|refine Lk.r rfl ?_|refine Rf.mk rfl ?_|refine xB ?_|refine xN ?_|(apply Cl.p (hva);(focus repeat' (first|exact Lend.nil|apply Lend.keep|fail))))
   exact ⟨_, prR pb sp bb mb m v vc p, .tup (.same (.same (.z))), rfl, rfl⟩
 obtain ⟨hv, hl⟩ := hok
 have hr : wantsF p.s.now.clock p.H th = (0, wntL (hldB p.H) (misF p.s.now.clock th) []) := if_pos ⟨hv, hl⟩
 rw [hr]
 rw [decide_eq_true hv] at hva
 obtain ⟨res, hres⟩ : ∃ res, res = wntL (hldB p.H) (misF p.s.now.clock th) [] := ⟨_, rfl⟩
 rw [← hres]
 obtain ⟨ms, hms⟩ : ∃ ms, ms = misF p.s.now.clock th := ⟨_, rfl⟩
 rw [← hms] at hres
 have hmi := missing_p p.s.now.clock th hcv hv hl.symm
 rw [← hms] at hmi
 have hml : ms.length ≤ 5 := by rw [hms];have := misN_len p.s.now.clock th p.s.now.clock.length;unfold misF;omega
 have hmr : ∀ s ∈ ms, 0 ≤ s.1 ∧ 1 ≤ s.2.1 ∧ s.2.1 ≤ s.2.2 ∧ s.2.2 ≤ 1024 := fun s hs => by
  rw [hms] at hs
  obtain ⟨j, x, y, h1, h2, h3, h4, rfl⟩ := misN_mem.1 hs
  have a1 := hcv.1 x (List.mem_of_getElem? h2)
  have a2 := hv.1 y (List.mem_of_getElem? h3)
  unfold rngK at a1 a2
  exact ⟨by simp only;omega, by simp only;omega, by simp only;omega, by simp only;omega⟩
 have hh := dheld_a bb vc mb p.c p.H h.hld
 obtain ⟨Q, hQ⟩ : ∃ Q, Q = ordE (p.H.map (·.2)) := ⟨_, rfl⟩
 have hQu : Uniq Q := by rw [hQ];exact ordE_nd h.hld.nd
 have hlk : ∀ r n, lookL (namesE Q) [r, n] = if hldB p.H r n = true then some true else none := fun r n => by
  rw [namesE_look, hQ]
  by_cases h9 : hldB p.H r n = true
  ·rw [if_pos h9, if_pos ((hldB_ord h.hld r n).2 h9)]
  ·rw [if_neg h9, if_neg (fun h8 => h9 ((hldB_ord h.hld r n).1 h8))]
 rw [← hQ] at hh
 have hrl : res.length ≤ 100000 := by
  have h1 := wntL_len (hldB p.H) ms [] fun s hs => by obtain ⟨_, a1, a2, a3⟩ := hmr s hs;omega
  rw [← hres] at h1
  simp only [List.length_nil] at h1
  omega
 refine CallA.fxr (K := fun r own => ∃ u, r = .tup [.ow u, it 0] ∧ own = arrR u 106 3 res spanC :: prR pb sp bb mb m v vc p) ?_ (by rintro _ _ ⟨u, rfl, rfl⟩;exact ⟨_, _, .tup (.s1 .here (by omega) (.k .nil)) .nil, rfl, rfl⟩)
 refine CallA.of pg ord51 Tryz.func51 rfl Tryz.ntmps51 Tryz.results51 rfl fun h0 G0 O0 => ?_
 repeat' (first|refine Sp.h ?_|refine Lk.r rfl ?_|refine Rf.mk rfl ?_|refine xT ?_|fail)
 refine xW (hck) ?_
 rintro _ _ ⟨rfl, rfl⟩
 repeat' (first|refine Sp.h ?_|refine Lk.r rfl ?_|refine Rf.mk rfl ?_|refine xA ?_|(refine Im.mk ?_;intro _)|(apply Cl.p (hva);(focus repeat' (first|exact Lend.nil|apply Lend.keep|fail))))
 refine MkM.r bl ?_
 refine ⟨fun M => ?_⟩
 repeat' (first|refine Sp.h ?_|refine Lk.r rfl ?_|refine Rf.mk rfl ?_|refine xT ?_|fail)
 refine xW (hh) ?_
 rintro _ _ ⟨rfl, rfl⟩
 repeat' (first|refine Sp.h ?_|refine Lk.r rfl ?_|(refine Im.mk ?_;intro _)|fail)
 refine CA.loop (fun i : Nat => ⟨[(1, ints th), (6, ints p.s.now.clock), (7, .val (.map (some M))), (35, evs Q), (36, it (Q.length : Nat)), (37, it i)], mapR Tryz.prog M 53 (namesE (Q.take i)) bl :: prR pb sp bb mb m v vc p⟩)
  (fun i => i ≤ Q.length) (fun i => Q.length - i) 0 xE (Nat.zero_le _) ?_
 rintro i hi
 by_cases hin : i < Q.length
 ·obtain ⟨e, he⟩ := get_of hin
  have hap := namesE_app hQu he
  repeat' (first|refine Sp.h ?_|refine Lk.r rfl ?_|refine Rf.mk rfl ?_|refine xA ?_|(refine All.mk ?_;intro _)|refine xT ?_|refine xI ?_|refine Ch.l ⟨rfl, rfl⟩ ?_|(apply SetAsk.r;focus repeat' constructor)|(apply Fk.r;focus repeat' first|infer_instance|constructor)|refine xN ?_|refine xK ?_|(apply Kf.mk;(focus kernel_rfl))|refine xM ?_|refine UpV.r rfl ?_|refine xO ?_|fail)
  refine PA.lp (i + 1) ⟨by (repeat first|exact trivial|refine ⟨rfl, ?_⟩), by rw [← hap];(repeat first|exact .nil|refine .cons (by repeat constructor) ?_)⟩ ⟨hin, by omega⟩
 have hie : i = Q.length := by omega
 subst hie
 rw [List.take_length]
 repeat' (first|refine Sp.h ?_|refine Lk.r rfl ?_|refine Rf.mk rfl ?_|refine xB ?_|fail)
 repeat' (first|refine Sp.h ?_|refine Lk.r rfl ?_|(refine Im.mk ?_;intro _)|(apply Cl.p (hmi);(focus repeat' (first|exact Lend.nil|apply Lend.keep|fail))))
 refine CA.nilOwn 10 106 3 spanC rfl fun u0 => ?_
 refine CA.loop (fun x : Nat × List SpS × Value => ⟨[(7, .val (.map (some M))), (10, .ow x.2.2), (50, sps ms), (51, it (ms.length : Nat)), (52, it x.1)], arrR x.2.2 106 3 x.2.1 spanC :: mapR Tryz.prog M 53 (namesE Q) bl :: prR pb sp bb mb m v vc p⟩)
  (fun x => x.1 ≤ ms.length ∧ x.2.1.length ≤ 2000 * x.1 ∧ res = wntL (hldB p.H) (ms.drop x.1) x.2.1) (fun x => ms.length - x.1) (0, [], u0) xE ⟨Nat.zero_le _, by simp, hres⟩ ?_
 rintro ⟨i, out, u⟩ ⟨hi, ho, hr⟩
 simp only at hi ho hr
 simp only
 by_cases hin : i < ms.length
 ·obtain ⟨⟨r, f, t⟩, hx⟩ := get_of hin
  obtain ⟨r1, r2, r3, r4⟩ := hmr _ (List.mem_of_getElem? hx)
  simp only at r1 r2 r3 r4
  have hr2 : res = wntL (hldB p.H) (ms.drop (i + 1)) (wntR (hldB p.H) r (t + 1 - f).toNat f out) := by
   rw [hr, List.drop_eq_getElem_cons hin, (List.getElem?_eq_some_iff.1 hx).2];rfl
  obtain ⟨K, hK⟩ : ∃ K : Nat, K = (t + 1 - f).toNat := ⟨_, rfl⟩
  rw [← hK] at hr2
  repeat' (first|refine Sp.h ?_|refine Lk.r rfl ?_|refine Rf.mk rfl ?_|refine xA ?_|(refine All.mk ?_;intro _)|refine xT ?_|refine xI ?_|refine Ch.l ⟨rfl, rfl⟩ ?_|(apply SetAsk.r;focus repeat' constructor)|refine xN ?_|fail)
  rename_i b12
  refine CA.loop (fun x : Nat × List SpS × Value => ⟨[(7, .val (.map (some M))), (10, .ow x.2.2), (12, pm b12), (13, it (f + x.1)), (50, sps ms), (51, it (ms.length : Nat)), (52, it i)], arrR x.2.2 106 3 x.2.1 spanC :: blkR b12 106 (spanC (r, f, t)) :: mapR Tryz.prog M 53 (namesE Q) bl :: prR pb sp bb mb m v vc p⟩)
   (fun x => x.1 ≤ K ∧ x.2.1.length ≤ 2000 * i + x.1 ∧ res = wntL (hldB p.H) (ms.drop (i + 1)) (wntR (hldB p.H) r (K - x.1) (f + x.1) x.2.1)) (fun x => K - x.1) (0, out, u) ⟨by simp only [Int.natCast_zero, Int.add_zero];(repeat first|exact trivial|refine ⟨rfl, ?_⟩), by (repeat first|exact .nil|refine .cons (by repeat constructor) ?_)⟩ ⟨Nat.zero_le _, ho, by simpa using hr2⟩ ?_
  rintro ⟨j, out', u'⟩ ⟨hj, ho', hr3⟩
  simp only at hj ho' hr3
  simp only
  by_cases hjn : j < K
  ·have hKj : K - j = (K - (j + 1)) + 1 := by omega
   have hcast : f + (j : Int) + 1 = f + ((j + 1 : Nat) : Int) := by push_cast;omega
   have hr4 : res = wntL (hldB p.H) (ms.drop (i + 1)) (wntR (hldB p.H) r (K - (j + 1)) (f + ((j + 1 : Nat) : Int)) (wnt1 (hldB p.H) r (f + j) out')) := by
    rw [hr3, hKj, wntR, hcast]
   have hle : f + (j : Int) ≤ t := by omega
   have hk := hlk r (f + j)
   cases hb : hldB p.H r (f + j) with
   | true =>
    have hw : wnt1 (hldB p.H) r (f + j) out' = out' := if_pos hb
    rw [hw] at hr4
    rw [hb, if_pos rfl] at hk
    repeat' (first|refine Sp.h ?_|refine Lk.r rfl ?_|refine Rf.mk rfl ?_|refine xA ?_|refine xT ?_|(apply Fk.r;focus repeat' first|infer_instance|constructor)|refine xK ?_|(apply Kf.mk;(focus kernel_rfl))|refine xM ?_|(apply LkM.s;(focus first|assumption|rfl))|refine xO ?_|fail)
    exact PA.lp (j + 1, out', u') ⟨by simp only [← hcast];(repeat first|exact trivial|refine ⟨rfl, ?_⟩), by (repeat first|exact .nil|refine .cons (by repeat constructor) ?_)⟩ ⟨⟨hjn, by simp only;omega, hr4⟩, by simp only;omega⟩
   | false =>
    rw [hb, if_neg Bool.false_ne_true] at hk
    have hol : ∀ o : List SpS, o.length ≤ out'.length + 1 → o.length ≤ 2000 * i + (j + 1) := fun o h9 => by omega
    by_cases hz : out'.length = 0
    ·have hw : wnt1 (hldB p.H) r (f + j) out' = out' ++ [(r, f + (j : Int), f + (j : Int))] := by
      unfold wnt1
      rw [hb, if_neg Bool.false_ne_true, List.getElem?_eq_none (by omega)]
     rw [hw] at hr4
     repeat' (first|refine Sp.h ?_|refine Lk.r rfl ?_|refine Rf.mk rfl ?_|refine xA ?_|refine xB ?_|refine OpK.r rfl ?_|refine xP ?_|(refine All.mk ?_;intro _)|refine xU ?_|refine xT ?_|refine Ce.r ?_|(apply Fk.r;focus repeat' first|infer_instance|constructor)|refine Rf.mk ⟨rfl, rfl⟩ ?_|refine Rf.mk ⟨rfl, rfl, rfl⟩ ?_|refine xK ?_|(apply Kf.mk;(focus kernel_rfl))|refine xM ?_|(apply Zx.b;(focus rfl))|(apply LkM.n;(focus first|assumption|rfl))|(apply Mp.lit;(focus repeat (first|exact MpL.nil|(apply MpL.cons;(focus rfl))|(apply MpL.inv;(focus repeat constructor);(focus infer_instance)))))|refine xD ?_|refine xO ?_|fail)
     exact PA.lp (j + 1, out' ++ [(r, f + (j : Int), f + (j : Int))], _) ⟨by simp only [← hcast];(repeat first|exact trivial|refine ⟨rfl, ?_⟩), by (repeat first|exact .nil|refine .cons (by repeat constructor) ?_)⟩ ⟨⟨hjn, hol _ (by simp), hr4⟩, by simp only;omega⟩
    obtain ⟨q, hq⟩ : ∃ q : Nat, out'.length = q + 1 := ⟨out'.length - 1, by omega⟩
    obtain ⟨⟨r', f', t'⟩, hs⟩ := get_of (l := out') (i := q) (by omega)
    have hqi : (out'.length : Int) - 1 = (q : Int) := by omega
    by_cases hc : r' = r ∧ t' = f + (j : Int) - 1
    ·have hw : wnt1 (hldB p.H) r (f + j) out' = out'.set q (r', f', f + (j : Int)) := by
      unfold wnt1
      rw [hb, if_neg Bool.false_ne_true, show out'.length - 1 = q by omega, hs]
      exact if_pos hc
     rw [hw] at hr4
     obtain ⟨hc1, hc2⟩ := hc
     repeat' (first|refine Sp.h ?_|refine Lk.r rfl ?_|refine Rf.mk rfl ?_|refine xA ?_|refine OpK.r rfl ?_|refine xU ?_|refine xT ?_|(apply Ix.r;(focus assumption);(focus omega))|refine xJ ?_|refine xV ?_|(apply Fk.r;focus repeat' first|infer_instance|constructor)|(apply Up.inv;(focus repeat constructor);(focus infer_instance))|refine xK ?_|(apply Kf.mk;(focus kernel_rfl))|refine xM ?_|(apply Zx.b;(focus rfl))|(apply LkM.n;(focus first|assumption|rfl))|refine xD ?_|refine xO ?_|fail)
     all_goals exact PA.lp (j + 1, out'.set q (r', f', f + (j : Int)), u') ⟨by simp only [← hcast];(repeat first|exact trivial|refine ⟨rfl, ?_⟩), by (repeat first|exact .nil|refine .cons (by repeat constructor) ?_)⟩ ⟨⟨hjn, hol _ (by simp), hr4⟩, by simp only;omega⟩
    ·have hw : wnt1 (hldB p.H) r (f + j) out' = out' ++ [(r, f + (j : Int), f + (j : Int))] := by
      unfold wnt1
      rw [hb, if_neg Bool.false_ne_true, show out'.length - 1 = q by omega, hs]
      exact if_neg hc
     rw [hw] at hr4
     by_cases hc1 : r' = r
     ·have hc2 : ¬ t' = f + (j : Int) - 1 := fun h9 => hc ⟨hc1, h9⟩
      repeat' (first|refine Sp.h ?_|refine Lk.r rfl ?_|refine Rf.mk rfl ?_|refine xA ?_|refine xB ?_|refine OpK.r rfl ?_|refine xP ?_|(refine All.mk ?_;intro _)|refine xU ?_|refine xT ?_|(apply Ix.r;(focus assumption);(focus omega))|refine xJ ?_|refine Ce.r ?_|(apply Fk.r;focus repeat' first|infer_instance|constructor)|refine Rf.mk ⟨rfl, rfl⟩ ?_|refine Rf.mk ⟨rfl, rfl, rfl⟩ ?_|refine xK ?_|(apply Kf.mk;(focus kernel_rfl))|refine xM ?_|(apply Zx.b;(focus rfl))|(apply LkM.n;(focus first|assumption|rfl))|(apply Mp.lit;(focus repeat (first|exact MpL.nil|(apply MpL.cons;(focus rfl))|(apply MpL.inv;(focus repeat constructor);(focus infer_instance)))))|refine xD ?_|refine xO ?_|fail)
      all_goals exact PA.lp (j + 1, out' ++ [(r, f + (j : Int), f + (j : Int))], _) ⟨by simp only [← hcast];(repeat first|exact trivial|refine ⟨rfl, ?_⟩), by (repeat first|exact .nil|refine .cons (by repeat constructor) ?_)⟩ ⟨⟨hjn, hol _ (by simp), hr4⟩, by simp only;omega⟩
     ·repeat' (first|refine Sp.h ?_|refine Lk.r rfl ?_|refine Rf.mk rfl ?_|refine xA ?_|refine xB ?_|refine OpK.r rfl ?_|refine xP ?_|(refine All.mk ?_;intro _)|refine xU ?_|refine xT ?_|(apply Ix.r;(focus assumption);(focus omega))|refine xJ ?_|refine Ce.r ?_|(apply Fk.r;focus repeat' first|infer_instance|constructor)|refine Rf.mk ⟨rfl, rfl⟩ ?_|refine Rf.mk ⟨rfl, rfl, rfl⟩ ?_|refine xK ?_|(apply Kf.mk;(focus kernel_rfl))|refine xM ?_|(apply Zx.b;(focus rfl))|(apply LkM.n;(focus first|assumption|rfl))|(apply Mp.lit;(focus repeat (first|exact MpL.nil|(apply MpL.cons;(focus rfl))|(apply MpL.inv;(focus repeat constructor);(focus infer_instance)))))|refine xD ?_|refine xO ?_|fail)
      all_goals exact PA.lp (j + 1, out' ++ [(r, f + (j : Int), f + (j : Int))], _) ⟨by simp only [← hcast];(repeat first|exact trivial|refine ⟨rfl, ?_⟩), by (repeat first|exact .nil|refine .cons (by repeat constructor) ?_)⟩ ⟨⟨hjn, hol _ (by simp), hr4⟩, by simp only;omega⟩
  ·have hj9 : j = K := by omega
   have hgt : ¬ f + (j : Int) ≤ t := by omega
   have hr4 : res = wntL (hldB p.H) (ms.drop (i + 1)) out' := by
    rw [hr3, hj9, Nat.sub_self, wntR]
   repeat' (first|refine Sp.h ?_|refine Lk.r rfl ?_|refine Rf.mk rfl ?_|refine xB ?_|refine xT ?_|refine xO ?_|fail)
   exact PA.lp (i + 1, out', u') xE ⟨⟨hin, by simp only;omega, hr4⟩, by simp only;omega⟩
 ·have hr2 : res = out := by rw [hr, List.drop_eq_nil_of_le (by omega)];rfl
  rw [hr2]
  repeat' (first|refine Sp.h ?_|refine Lk.r rfl ?_|refine Rf.mk rfl ?_|refine xB ?_|refine xN ?_|fail)
  exact ⟨_, arrR u 106 3 out spanC :: prR pb sp bb mb m v vc p, .tup (.same (.same (.z))), _, rfl, rfl⟩
end Go.Proofs.YtmllihbhphnolaaGreat
namespace Go.Proofs.YtmllihbhphnolaaGreat
open Go Go.CF
set_option maxRecDepth 20000
theorem Lend.all {o : List Res} : ∀ l : List AV, Lend o l l
 | [] => .nil
 | _ :: l => .keep (Lend.all l)
end Go.Proofs.YtmllihbhphnolaaGreat
namespace Go.Proofs.YtmllihbhphnolaaGreat
open Go Go.CF
set_option maxRecDepth 20000
abbrev spA (s : SpS) : AV := .agg (spanC s)
theorem indexS_p {g : FuncId} {caps : List AV} {p : SpS → Bool} (hg : ∀ e, CallP Tryz.prog g (spA e :: caps) (.val (.bool (p e)))) (he : en g = true) (l : List SpS) :
  CallP Tryz.prog 242 [sps l, .fn g caps] (.val (.int .i64 (idxI p l))) := by
 refine CallA.of pg ord242 Tryz.func242 rfl Tryz.ntmps242 Tryz.results242 rfl fun h0 G0 O0 => ?_
 repeat' (first|refine Sp.h ?_|refine Lk.r rfl ?_|refine Rf.mk rfl ?_|(refine Im.mk ?_;intro _)|fail)
 rename_i hll
 refine CA.loop (fun i : Nat => ⟨[(0, sps l), (1, .fn g caps), (7, .val (.int .i64 l.length)), (8, .val (.int .i64 i))], []⟩)
  (fun i => i ≤ l.length ∧ ∀ j y, j < i → l[j]? = some y → p y = false) (fun i => l.length - i) 0 xE ⟨Nat.zero_le _, fun j y h => by omega⟩ ?_
 rintro i ⟨hi, hj⟩
 by_cases hin : i < l.length
 ·obtain ⟨e, hx⟩ := get_of hin
  repeat' (first|refine Sp.h ?_|refine Lk.r rfl ?_|refine Rf.mk rfl ?_|refine xA ?_|(refine Bd.mk ?_ ?_ <;> intro _)|refine xI ?_|refine Ch.l ⟨rfl, rfl⟩ ?_|refine xN ?_|(apply Rf.mk;(focus assumption))|refine xO ?_|(apply Cl.p (hg e);(focus repeat' (first|apply Lend.keep|fail))))
  ·exact Lend.all _
  ·rename_i hp
   exact Fin.p rfl (by rw [idxI, idxN_of hx hp hj, if_pos hin])
  ·rename_i hp
   refine PA.lp (i + 1) xE ⟨⟨hin, fun j y h1 h2 => ?_⟩, by omega⟩
   by_cases hij : j = i
   ·subst hij;rw [hx] at h2;cases h2;simpa using hp
   ·exact hj j y (by omega) h2
 ·repeat' (first|refine Sp.h ?_|refine Lk.r rfl ?_|refine Rf.mk rfl ?_|refine xB ?_|refine xN ?_|fail)
  exact Fin.p rfl (by rw [idxI, idxN_none (fun x hx => by obtain ⟨j, hx⟩ := List.getElem?_of_mem hx;exact hj j x (by have := (List.getElem?_eq_some_iff.1 hx).1;omega) hx), if_neg (by omega)])
theorem containsS_p {g : FuncId} {caps : List AV} {p : SpS → Bool} (hg : ∀ e, CallP Tryz.prog g (spA e :: caps) (.val (.bool (p e)))) (he : en g = true) (l : List SpS) :
  CallP Tryz.prog 162 [sps l, .fn g caps] (.val (.bool (decide (∃ s ∈ l, p s = true)))) := by
 refine CallA.of pg ord162 Tryz.func162 rfl Tryz.ntmps162 Tryz.results162 rfl fun h0 G0 O0 => ?_
 repeat' (first|refine Sp.h ?_|refine Lk.r rfl ?_|refine Rf.mk rfl ?_|refine xN ?_|(apply Cl.p (indexS_p hg he l);(focus repeat' (first|exact Lend.nil|apply Lend.keep|fail))))
 refine Fin.p rfl (vb (decide_eq_decide.2 ?_))
 rw [← idxN_lt]
 unfold idxI
 split <;> omega
def okSp (N : Nat) (s : SpS) : Prop := 0 ≤ s.1 ∧ s.1 < (N : Int) ∧ 1 ≤ s.2.1 ∧ s.2.1 ≤ s.2.2 ∧ s.2.2 ≤ 1024
noncomputable instance (N : Nat) (s : SpS) : Decidable (okSp N s) := Classical.propDecidable _
def inS1 (e : EvS) (s : SpS) : Prop := s.1 = e.rep ∧ s.2.1 ≤ e.num ∧ e.num ≤ s.2.2
noncomputable instance (e : EvS) (s : SpS) : Decidable (inS1 e s) := Classical.propDecidable _
noncomputable def inSp (l : List SpS) (e : EvS) : Bool := decide (∃ s ∈ l, inS1 e s)
noncomputable def serveF (N : Nat) (evl : List EvS) (most : Int) (l : List SpS) : Int × List EvS :=
 @ite _ ((1 ≤ most ∧ most ≤ 1024) ∧ ∀ s ∈ l, okSp N s) (Classical.propDecidable _) (0, (evl.filter (inSp l)).take most.toNat) (1, [])
theorem fewA_p (n : Int) : CallP Tryz.prog 102 [it n] (bl (decide (1 ≤ n ∧ n ≤ 1024))) := by
 refine CallA.of pg ord102 Tryz.func102 rfl Tryz.ntmps102 Tryz.results102 rfl fun h0 G0 O0 => ?_
 repeat' (first|refine Sp.h ?_|refine Lk.r rfl ?_|refine Rf.mk rfl ?_|refine xA ?_|refine xB ?_|(refine Bd.mk ?_ ?_ <;> intro _)|refine xN ?_|fail)
 all_goals refine Fin.p rfl (vb ?_)
 all_goals first
  | exact decide_eq_decide.2 (by omega)
  | exact (decide_eq_false (by omega)).symm
theorem serve1_p (N : Nat) (s : SpS) : CallP Tryz.prog 163 [spA s, .ad [it N] 0] (bl (decide (¬ okSp N s))) := by
 obtain ⟨r, f, t⟩ := s
 refine CallA.of pg ord163 Tryz.func163 rfl Tryz.ntmps163 Tryz.results163 rfl fun h0 G0 O0 => ?_
 repeat' (first|refine Sp.h ?_|refine Lk.r rfl ?_|refine Rf.mk rfl ?_|refine xA ?_|refine xB ?_|(refine Bd.mk ?_ ?_ <;> intro _)|(refine All.mk ?_;intro _)|refine xT ?_|refine xN ?_|fail)
 all_goals refine Fin.p rfl (vb ?_)
 all_goals first
  | exact decide_eq_decide.2 ⟨fun h => by unfold okSp;(try simp only at *);omega, fun h => by unfold okSp at h;(try simp only at *);omega⟩
  | exact (decide_eq_false fun h => by unfold okSp at h;(try simp only at *);omega).symm
  | exact (decide_eq_true (by unfold okSp;(try simp only at *);omega)).symm
theorem serve21_p (e : EvS) (s : SpS) : CallP Tryz.prog 165 [spA s, .ad (evC e) 0] (bl (decide (inS1 e s))) := by
 obtain ⟨r, f, t⟩ := s
 refine CallA.of pg ord165 Tryz.func165 rfl Tryz.ntmps165 Tryz.results165 rfl fun h0 G0 O0 => ?_
 repeat' (first|refine Sp.h ?_|refine Lk.r rfl ?_|refine Rf.mk rfl ?_|refine xA ?_|refine xB ?_|(refine Bd.mk ?_ ?_ <;> intro _)|(refine All.mk ?_;intro _)|refine xT ?_|refine xN ?_|fail)
 all_goals refine Fin.p rfl (vb ?_)
 all_goals first
  | exact decide_eq_decide.2 ⟨fun h => by unfold inS1;(try simp only at *);omega, fun h => by unfold inS1 at h;(try simp only at *);omega⟩
  | exact (decide_eq_false fun h => by unfold inS1 at h;(try simp only at *);omega).symm
theorem serve2_p (e : EvS) (l : List SpS) : CallP Tryz.prog 164 [evA' e, .ad [sps l] 0] (bl (inSp l e)) := by
 have h1 : ∀ s, CallP Tryz.prog 165 (spA s :: [.ad (evC e) 0]) (bl (decide (inS1 e s))) := serve21_p e
 have h2 := containsS_p h1 rfl l
 refine CallA.of pg ord164 Tryz.func164 rfl Tryz.ntmps164 Tryz.results164 rfl fun h0 G0 O0 => ?_
 (repeat' (first|(show CA _ _ (Code.region 1 _ _) _ _;apply Stopped.out)|refine Sp.h ?_|refine Lk.r rfl ?_|refine Rf.mk rfl ?_|(refine All.mk ?_;intro _)|fail));any_goals apply Stopped.mk
 rename_i b2
 apply CA.freezeB 2
 focus rfl
 focus (repeat constructor)
 repeat' (first|refine Sp.h ?_|refine Lk.r rfl ?_|refine Rf.mk rfl ?_|refine xN ?_|(apply Cl.p (h2);(focus repeat' (first|exact Lend.nil|apply Lend.keep|fail))))
 refine Fin.p rfl (vb ?_)
 simp only [inSp, decide_eq_true_eq]
theorem serve_bad (N : Nat) (evl : List EvS) (most : Int) (l : List SpS) (h : ¬ ((1 ≤ most ∧ most ≤ 1024) ∧ ∀ s ∈ l, okSp N s)) : serveF N evl most l = (1, []) := if_neg h
theorem serve_ok (N : Nat) (evl : List EvS) (most : Int) (l : List SpS) (h : (1 ≤ most ∧ most ≤ 1024) ∧ ∀ s ∈ l, okSp N s) : serveF N evl most l = (0, (evl.filter (inSp l)).take most.toNat) := if_pos h
theorem take_step {p : EvS → Bool} {l : List EvS} {i k : Nat} {e : EvS} (he : l[i]? = some e) : ((l.take (i + 1)).filter p).take k = if p e = true ∧ (((l.take i).filter p).take k).length < k then ((l.take i).filter p).take k ++ [e] else ((l.take i).filter p).take k := by
 rw [List.take_add_one, he, Option.toList_some, List.filter_append]
 by_cases hp : p e = true
 ·rw [show [e].filter p = [e] by simp [hp], List.take_append]
  simp only [hp, true_and, List.length_take]
  by_cases hk : ((l.take i).filter p).length < k
  ·rw [if_pos (by omega), List.take_of_length_le (l := [e]) (by simp;omega)]
  ·rw [if_neg (by omega), show k - ((l.take i).filter p).length = 0 by omega];simp
 ·rw [if_neg (fun h => hp h.1), show [e].filter p = [] by simp [hp], List.append_nil]
set_option maxHeartbeats 8000000 in
theorem serve_a (pb sp bb mb : Nat) (m : ModS) (v vc : Value) (N B : Nat) (p : PrS) (most : Int) (l : List SpS) (h : PrOK m N B p) (hB : B ≤ 90000) (hN : N ≤ 5) (hev : ∀ e ∈ p.s.evs, e.past.length ≤ 1000000) :
  CallA Tryz.prog 104 [pm pb, it most, sps l] (prR pb sp bb mb m v vc p) fun r own => r = .tup [evs (serveF N p.s.evs most l).2, it (serveF N p.s.evs most l).1] ∧ own = prR pb sp bb mb m v vc p := by
 have hsz := h.sz
 have hn := h.n
 subst hn
 obtain ⟨c, hc⟩ : ∃ c, c = p.s.now.clock := ⟨_, rfl⟩
 have hck := sclock_p sp m p.s.base v p.s.now (by omega)
 have hfw := fewA_p most
 have hc1 := containsS_p (caps := [.ad [it (p.s.now.clock.length : Nat)] 0]) (serve1_p p.s.now.clock.length) rfl l
 by_cases hok : (1 ≤ most ∧ most ≤ 1024) ∧ ∀ s ∈ l, okSp p.s.now.clock.length s
 rotate_left
 ·rw [serve_bad _ _ most l hok]
  refine CallA.fxr (K := fun r own => r = .tup [nl0, it 1] ∧ own = prR pb sp bb mb m v vc p) ?_ (by rintro _ _ ⟨rfl, rfl⟩;exact ⟨_, _, .tup (.kn (.k .nil)) .nil, rfl, rfl⟩)
  by_cases hmo : 1 ≤ most ∧ most ≤ 1024
  ·rw [decide_eq_true hmo] at hfw
   rw [decide_eq_true (by
    refine Classical.byContradiction fun h9 => hok ⟨hmo, fun s hs => Classical.byContradiction fun h8 => h9 ⟨s, hs, decide_eq_true h8⟩⟩)] at hc1
   refine CallA.of pg ord104 Tryz.func104 rfl Tryz.ntmps104 Tryz.results104 rfl fun h0 G0 O0 => ?_
   repeat' (first|refine Sp.h ?_|refine Lk.r rfl ?_|refine Rf.mk rfl ?_|(refine All.mk ?_;intro _)|refine xT ?_|fail)
   refine xW (hck) ?_
   rintro _ _ ⟨rfl, rfl⟩
   (repeat' (first|(show CA _ _ (Code.region 2 _ _) _ _;apply Stopped.out)|refine Sp.h ?_|refine Lk.r rfl ?_|refine Rf.mk rfl ?_|(refine Im.mk ?_;intro _)|(refine All.mk ?_;intro _)|refine xT ?_|refine xV ?_|refine xN ?_|fail));any_goals apply Stopped.mk
   apply CA.freezeB 5
   focus rfl
   focus (repeat constructor)
   apply CA.freezeB 8
   focus rfl
   focus (repeat constructor)
   repeat' (first|refine Sp.h ?_|refine Lk.r rfl ?_|refine Rf.mk rfl ?_|refine xA ?_|refine xN ?_|(apply Cl.p (hfw);(focus ((repeat' (first|exact Lend.nil|apply Lend.keep|fail));done)))|(apply Cl.p (hc1);(focus ((repeat' (first|exact Lend.nil|apply Lend.keep|fail));done))))
   exact ⟨_, prR pb sp bb mb m v vc p, .tup (.same (.same (.z))), rfl, rfl⟩
  ·rw [decide_eq_false hmo] at hfw
   refine CallA.of pg ord104 Tryz.func104 rfl Tryz.ntmps104 Tryz.results104 rfl fun h0 G0 O0 => ?_
   repeat' (first|refine Sp.h ?_|refine Lk.r rfl ?_|refine Rf.mk rfl ?_|(refine All.mk ?_;intro _)|refine xT ?_|fail)
   refine xW (hck) ?_
   rintro _ _ ⟨rfl, rfl⟩
   (repeat' (first|(show CA _ _ (Code.region 2 _ _) _ _;apply Stopped.out)|refine Sp.h ?_|refine Lk.r rfl ?_|refine Rf.mk rfl ?_|(refine Im.mk ?_;intro _)|(refine All.mk ?_;intro _)|refine xT ?_|refine xV ?_|refine xN ?_|fail));any_goals apply Stopped.mk
   apply CA.freezeB 5
   focus rfl
   focus (repeat constructor)
   apply CA.freezeB 8
   focus rfl
   focus (repeat constructor)
   repeat' (first|refine Sp.h ?_|refine Lk.r rfl ?_|refine Rf.mk rfl ?_|refine xB ?_|refine xN ?_|(apply Cl.p (hfw);(focus ((repeat' (first|exact Lend.nil|apply Lend.keep|fail));done)))|(apply Cl.p (hc1);(focus ((repeat' (first|exact Lend.nil|apply Lend.keep|fail));done))))
   exact ⟨_, prR pb sp bb mb m v vc p, .tup (.same (.same (.z))), rfl, rfl⟩
 rw [serve_ok _ _ most l hok]
 obtain ⟨hmo, hall⟩ := hok
 rw [decide_eq_true hmo] at hfw
 rw [decide_eq_false (by rintro ⟨s, hs, h9⟩;exact of_decide_eq_true h9 (hall s hs))] at hc1
 obtain ⟨k, rfl⟩ : ∃ k : Nat, most = k := ⟨most.toNat, by omega⟩
 rw [Int.toNat_natCast]
 have hse := sevents_p sp m p.s.base v p.s.now p.s.evs (by omega) hev
 have hEl : p.s.evs.length ≤ 90000 := by omega
 have htl : ∀ i, (((p.s.evs.take i).filter (inSp l)).take k).length ≤ 1024 := fun i => by rw [List.length_take];omega
 have hw : ∀ e, CallP Tryz.prog 164 [evA' e, .ad [sps l] 0] (bl (inSp l e)) := fun e => serve2_p e l
 refine CallA.fxr (K := fun r own => ∃ u, r = .tup [.ow u, it 0] ∧ own = arrR u 37 13 ((p.s.evs.filter (inSp l)).take k) evC :: prR pb sp bb mb m v vc p) ?_ (by rintro _ _ ⟨u, rfl, rfl⟩;exact ⟨_, _, .tup (.s1 .here (by rw [List.length_take];omega) (.k .nil)) .nil, rfl, rfl⟩)
 refine CallA.of pg ord104 Tryz.func104 rfl Tryz.ntmps104 Tryz.results104 rfl fun h0 G0 O0 => ?_
 repeat' (first|refine Sp.h ?_|refine Lk.r rfl ?_|refine Rf.mk rfl ?_|(refine All.mk ?_;intro _)|refine xT ?_|fail)
 refine xW (hck) ?_
 rintro _ _ ⟨rfl, rfl⟩
 (repeat' (first|(show CA _ _ (Code.region 2 _ _) _ _;apply Stopped.out)|refine Sp.h ?_|refine Lk.r rfl ?_|refine Rf.mk rfl ?_|(refine Im.mk ?_;intro _)|(refine All.mk ?_;intro _)|refine xT ?_|refine xV ?_|refine xN ?_|fail));any_goals apply Stopped.mk
 apply CA.freezeB 5
 focus rfl
 focus (repeat constructor)
 apply CA.freezeB 8
 focus rfl
 focus (repeat constructor)
 repeat' (first|refine Sp.h ?_|refine Lk.r rfl ?_|refine Rf.mk rfl ?_|refine xA ?_|refine xT ?_|(apply Cl.p (hfw);(focus ((repeat' (first|exact Lend.nil|apply Lend.keep|fail));done)))|(apply Cl.p (hc1);(focus ((repeat' (first|exact Lend.nil|apply Lend.keep|fail));done))))
 refine xW (hse) ?_
 rintro _ _ ⟨rfl, rfl⟩
 repeat' (first|refine Sp.h ?_|refine Lk.r rfl ?_|(refine Im.mk ?_;intro _)|fail)
 refine CA.nilOwn 10 37 13 evC rfl fun u0 => ?_
 refine CA.loop (fun x : Nat × Value => ⟨[(1, it k), (9, .fn 164 [.ad [sps l] 0]), (10, .ow x.2), (32, evs p.s.evs), (33, it (p.s.evs.length : Nat)), (34, it x.1)], arrR x.2 37 13 (((p.s.evs.take x.1).filter (inSp l)).take k) evC :: prR pb sp bb mb m v vc p⟩)
  (fun x => x.1 ≤ p.s.evs.length) (fun x => p.s.evs.length - x.1) (0, u0) ⟨by (repeat first|exact trivial|refine ⟨rfl, ?_⟩), by simp only [List.take_zero, List.filter_nil, List.take_nil];(repeat first|exact .nil|refine .cons (by repeat constructor) ?_)⟩ (Nat.zero_le _) ?_
 rintro ⟨i, u⟩ hi
 simp only at hi
 simp only
 by_cases hin : i < p.s.evs.length
 ·obtain ⟨e, he⟩ := get_of hin
  have hts := take_step (p := inSp l) (k := k) he
  have hwe := hw e
  have hti := htl i
  cases hp : inSp l e with
  | false =>
   have h9 : ((p.s.evs.take (i + 1)).filter (inSp l)).take k = ((p.s.evs.take i).filter (inSp l)).take k := by rw [hts, if_neg (fun h9 => by rw [hp] at h9;cases h9.1)]
   rw [hp] at hwe
   repeat' (first|refine Sp.h ?_|refine Lk.r rfl ?_|refine Rf.mk rfl ?_|refine xA ?_|(refine All.mk ?_;intro _)|refine xT ?_|refine xI ?_|refine Ch.l ⟨rfl, rfl⟩ ?_|(apply SetAsk.r;focus repeat' constructor)|refine xN ?_|refine xO ?_|(apply Cl.p (hwe);(focus repeat' (first|exact Lend.nil|apply Lend.keep|fail))))
   all_goals exact PA.lp (i + 1, _) ⟨by (repeat first|exact trivial|refine ⟨rfl, ?_⟩), by simp only [h9];(repeat first|exact .nil|refine .cons (by repeat constructor) ?_)⟩ ⟨hin, by simp only;omega⟩
  | true =>
   rw [hp] at hwe
   by_cases hk : (((p.s.evs.take i).filter (inSp l)).take k).length < k
   ·have h9 : ((p.s.evs.take (i + 1)).filter (inSp l)).take k = ((p.s.evs.take i).filter (inSp l)).take k ++ [e] := by rw [hts, if_pos ⟨hp, hk⟩]
    repeat' (first|refine Sp.h ?_|refine Lk.r rfl ?_|refine Rf.mk rfl ?_|refine xA ?_|refine xP ?_|(refine All.mk ?_;intro _)|refine xU ?_|refine xT ?_|refine xI ?_|refine Ce.r ?_|refine Ch.l ⟨rfl, rfl⟩ ?_|(apply SetAsk.r;focus repeat' constructor)|(apply Fk.r;focus repeat' first|infer_instance|constructor)|refine xN ?_|refine Rf.mk ⟨rfl, rfl⟩ ?_|refine Rf.mk ⟨rfl, rfl, rfl⟩ ?_|(apply Mp.lit;(focus repeat (first|exact MpL.nil|(apply MpL.cons;(focus rfl))|(apply MpL.inv;(focus repeat constructor);(focus infer_instance)))))|refine xO ?_|(apply Cl.p (hwe);(focus repeat' (first|exact Lend.nil|apply Lend.keep|fail))))
    all_goals exact PA.lp (i + 1, _) ⟨by (repeat first|exact trivial|refine ⟨rfl, ?_⟩), by simp only [h9];(repeat first|exact .nil|refine .cons (by repeat constructor) ?_)⟩ ⟨hin, by simp only;omega⟩
   ·have h9 : ((p.s.evs.take (i + 1)).filter (inSp l)).take k = ((p.s.evs.take i).filter (inSp l)).take k := by rw [hts, if_neg (fun h9 => hk h9.2)]
    repeat' (first|refine Sp.h ?_|refine Lk.r rfl ?_|refine Rf.mk rfl ?_|refine xA ?_|refine xB ?_|(refine All.mk ?_;intro _)|refine xU ?_|refine xT ?_|refine xI ?_|refine Ch.l ⟨rfl, rfl⟩ ?_|(apply SetAsk.r;focus repeat' constructor)|refine xN ?_|refine xO ?_|(apply Cl.p (hwe);(focus repeat' (first|exact Lend.nil|apply Lend.keep|fail))))
    all_goals exact PA.lp (i + 1, _) ⟨by (repeat first|exact trivial|refine ⟨rfl, ?_⟩), by simp only [h9];(repeat first|exact .nil|refine .cons (by repeat constructor) ?_)⟩ ⟨hin, by simp only;omega⟩
 ·have hie : i = p.s.evs.length := by omega
  subst hie
  rw [List.take_length]
  repeat' (first|refine Sp.h ?_|refine Lk.r rfl ?_|refine Rf.mk rfl ?_|refine xB ?_|refine xN ?_|fail)
  exact ⟨_, arrR u 37 13 ((p.s.evs.filter (inSp l)).take k) evC :: prR pb sp bb mb m v vc p, .tup (.same (.same (.z))), _, rfl, rfl⟩
end Go.Proofs.YtmllihbhphnolaaGreat
namespace Go.Proofs.YtmllihbhphnolaaGreat
open Go Go.CF
set_option maxRecDepth 20000
structure Fine (m : ModS) (N B : Nat) (p : PrS) : Prop where
 ok : PrOK m N B p
 ev : ∀ e ∈ p.s.evs, e.past.length ≤ 1000000
noncomputable def sndL (N : Nat) (most : Int) (a b : PrS) : List EvS := (serveF N a.s.evs most (wantsF b.s.now.clock b.H a.s.now.clock).2).2
noncomputable def sndF (m : ModS) (N : Nat) (most : Int) (a b : PrS) : Int × PrS := ((takeF m (sndL N most a b) b).1, (takeF m (sndL N most a b) b).2.1)
theorem sndL_len (N : Nat) (most : Int) (a b : PrS) : (sndL N most a b).length ≤ 1024 := by
 unfold sndL serveF
 split
 ·rename_i h
  simp only [List.length_take]
  omega
 ·simp
set_option maxHeartbeats 4000000 in
theorem send_a (pa sa ba ma : Nat) (va wa : Value) (pb sb bb mb : Nat) (vb wb : Value) (m : ModS) (N B : Nat) (a b : PrS) (most : Int) (hm : MOK m) (ha : Fine m N B a) (hb : Fine m N B b) (hB : B ≤ 80000) (hN : N ≤ 5) :
  CallA Tryz.prog 103 [pm pa, pm pb, .ad [it most] 0] (prR pa sa ba ma m va wa a ++ prR pb sb bb mb m vb wb b) fun r own => r = .tup [it ((sndL N most a b).length : Nat), it (sndF m N most a b).1] ∧ ∃ v', own = prR pa sa ba ma m va wa a ++ prR pb sb bb mb m v' wb (sndF m N most a b).2 := by
 have h1 := sclock_p sa m a.s.base va a.s.now (by have := ha.ok.n;omega)
 have h2 := wants_a pb sb bb mb m vb wb N B b a.s.now.clock hb.ok
 have h3 := serve_a pa sa ba ma m va wa N B a most (wantsF b.s.now.clock b.H a.s.now.clock).2 ha.ok (by omega) hN ha.ev
 have hl := sndL_len N most a b
 have h4 := take_a pb sb bb mb m vb wb N B b (sndL N most a b) hm hb.ok hN (by omega)
 unfold sndF
 change CallA _ _ _ _ fun r own => r = .tup [evs (sndL N most a b), _] ∧ _ at h3
 refine CallA.of pg ord103 Tryz.func103 rfl Tryz.ntmps103 Tryz.results103 rfl fun h0 G0 O0 => ?_
 repeat' (first|refine Sp.h ?_|refine Lk.r rfl ?_|refine Rf.mk rfl ?_|refine xT ?_|fail)
 refine xW (h1) ?_
 rintro _ _ ⟨rfl, rfl⟩
 repeat' (first|refine Sp.h ?_|refine Lk.r rfl ?_|refine Rf.mk rfl ?_|fail)
 refine xW (h2) ?_
 rintro _ _ ⟨rfl, rfl⟩
 repeat' (first|refine Sp.h ?_|refine Lk.r rfl ?_|refine Rf.mk rfl ?_|fail)
 refine xW (h3) ?_
 rintro _ _ ⟨rfl, rfl⟩
 repeat' (first|refine Sp.h ?_|refine Lk.r rfl ?_|refine Rf.mk rfl ?_|fail)
 refine xW (h4) ?_
 rintro _ _ ⟨rfl, v', rfl⟩
 repeat' (first|refine Sp.h ?_|refine Lk.r rfl ?_|refine Rf.mk rfl ?_|(refine Im.mk ?_;intro _)|refine xN ?_|fail)
 exact ⟨_, prR pa sa ba ma m va wa a ++ prR pb sb bb mb m v' wb (takeF m (sndL N most a b) b).2.1, .tup (.same (.same (.z))), rfl, v', rfl⟩
inductive RecK (m : ModS) (N B : Nat) (most : Int) : PrS → PrS → Nat → Nat → PrS → PrS → Prop
 | last {a b : PrS} : Fine m N B a → Fine m N B b → Fine m N B (sndF m N most a b).2 → (sndF m N most a b).1 = 0 → (sndF m N most (sndF m N most a b).2 a).1 = 0 → sndL N most a b = [] → sndL N most (sndF m N most a b).2 a = [] →
   RecK m N B most a b 1 0 (sndF m N most (sndF m N most a b).2 a).2 (sndF m N most a b).2
 | step {a b a' b' : PrS} {r s : Nat} : Fine m N B a → Fine m N B b → Fine m N B (sndF m N most a b).2 → (sndF m N most a b).1 = 0 → (sndF m N most (sndF m N most a b).2 a).1 = 0 →
   0 < (sndL N most a b).length + (sndL N most (sndF m N most a b).2 a).length → RecK m N B most (sndF m N most (sndF m N most a b).2 a).2 (sndF m N most a b).2 r s a' b' →
   RecK m N B most a b (r + 1) ((sndL N most a b).length + (sndL N most (sndF m N most a b).2 a).length + s) a' b'
theorem RecK.fine {m : ModS} {N B : Nat} {most : Int} {a b a' b' : PrS} {r s : Nat} (h : RecK m N B most a b r s a' b') : Fine m N B a ∧ Fine m N B b := by
 cases h <;> exact ⟨by assumption, by assumption⟩
def recO : Nat → Ord × (Nat → Cls) := fun id => bif Nat.beq id 1 then (.one 0 (.one 1 (.one 2 (.one 3 (.one 4 (.one 5 (.one 6 (.one 7 (.one 10 (.one 11 (.one 12 (.alt 8 (.one 9 (.one 13 (.one 14 (.one 15 (.one 16 (.one 17 .done)))))) (.alt 13 (.one 8 (.one 9 (.one 14 (.one 15 (.one 16 (.one 17 .done)))))) (.none))))))))))))), clOf [.read, .loud, .pure, .pure, .pure, .pure, .pure, .read, .loud, .pure, .pure, .pure, .pure, .ext, .loud, .pure, .pure, .pure]) else (.done, clOf [])
abbrev prR2 (pa sa ba ma : Nat) (va wa : Value) (pb sb bb mb : Nat) (vb wb : Value) (m : ModS) (a b : PrS) : List Res := prR pa sa ba ma m va wa a ++ prR pb sb bb mb m vb wb b
set_option maxHeartbeats 8000000 in
theorem recon_a (pa sa ba ma : Nat) (va wa : Value) (pb sb bb mb : Nat) (vb wb : Value) (m : ModS) (N B : Nat) (a b a' b' : PrS) (most : Int) (R S : Nat) (hm : MOK m) (h : RecK m N B most a b R S a' b') (hB : B ≤ 80000) (hN : N ≤ 5) (hmo : 1 ≤ most ∧ most ≤ 1024) (hR : R ≤ 100000) (hS : S ≤ 1000000000) :
  CallA Tryz.prog 30 [pm pa, pm pb, it most] (prR2 pa sa ba ma va wa pb sb bb mb vb wb m a b) fun r own => r = .tup [it R, it S, it 0] ∧ ∃ va' vb', own = prR2 pa sa ba ma va' wa pb sb bb mb vb' wb m a' b' := by
 have hfa := h.fine.1.ok.n
 have hfb := h.fine.2.ok.n
 have h1 := sclock_p sa m a.s.base va a.s.now (by omega)
 have h2 := sclock_p sb m b.s.base vb b.s.now (by omega)
 have h3 := fewA_p most
 rw [decide_eq_true hmo] at h3
 have heq : (a.s.now.clock.length : Int) = (b.s.now.clock.length : Int) := by omega
 refine CallA.of pg recO Tryz.func30 rfl Tryz.ntmps30 Tryz.results30 rfl fun h0 G0 O0 => ?_
 (repeat' (first|(show CA _ _ (Code.region 1 _ _) _ _;apply Stopped.out)|refine Sp.h ?_|refine Lk.r rfl ?_|refine Rf.mk rfl ?_|(refine All.mk ?_;intro _)|fail));any_goals apply Stopped.mk
 rename_i b5
 refine CA.cut (fun _ : Unit => ⟨[(0, pm pa), (1, pm pb), (5, pm b5), (32, .val (.bool (decide ¬ (a.s.now.clock.length : Int) = (b.s.now.clock.length : Int))))], blkR b5 3 [it most] :: prR2 pa sa ba ma va wa pb sb bb mb vb wb m a b⟩) (fun _ => True) ?_ ?_
 ·repeat' (first|refine Sp.h ?_|refine Lk.r rfl ?_|refine Rf.mk rfl ?_|refine xA ?_|refine OpK.r rfl ?_|refine xT ?_|refine xD ?_|exact trivial|apply RA'.both|(apply Cl.p (h3);(focus ((repeat' (first|exact Lend.nil|apply Lend.keep|fail));done)))|(apply Cl.p (h3);(focus ((repeat' (first|exact Lend.nil|apply Lend.keep|fail));done))))
  all_goals refine xW (h1) ?_
  all_goals rintro _ _ ⟨rfl, rfl⟩
  all_goals repeat' (first|refine Sp.h ?_|refine Lk.r rfl ?_|refine Rf.mk rfl ?_|refine xA ?_|refine OpK.r rfl ?_|(refine Im.mk ?_;intro _)|refine xT ?_|fail)
  all_goals refine xW (h2) ?_
  all_goals rintro _ _ ⟨rfl, rfl⟩
  all_goals repeat' (first|refine Sp.h ?_|refine Lk.r rfl ?_|refine xA ?_|refine OpK.r rfl ?_|(refine Im.mk ?_;intro _)|fail)
  all_goals exact PA.lp () xE trivial
 rintro - -
 (repeat' (first|(show CA _ _ (Code.region 3 _ _) _ _;apply Stopped.out)|refine Sp.h ?_|refine Lk.r rfl ?_|refine xA ?_|fail));any_goals apply Stopped.mk
 apply CA.freezeB 5
 focus rfl
 focus (repeat constructor)
 repeat' (first|refine Sp.h ?_|refine Lk.r rfl ?_|refine Rf.mk rfl ?_|fail)
 refine CA.loop (fun x : Nat × Nat × Nat × PrS × PrS × Value × Value => ⟨[(0, pm pa), (1, pm pb), (9, .fn 103 [.ad [it most] 0]), (10, it x.2.1), (11, it x.2.2.1)], prR2 pa sa ba ma x.2.2.2.2.2.1 wa pb sb bb mb x.2.2.2.2.2.2 wb m x.2.2.2.1 x.2.2.2.2.1⟩)
  (fun x => x.2.1 + x.1 = R ∧ ∃ s', x.2.2.1 + s' = S ∧ RecK m N B most x.2.2.2.1 x.2.2.2.2.1 x.1 s' a' b') (fun x => x.1) (R, 0, 0, a, b, va, vb) xE ⟨by simp, S, by simp, h⟩ ?_
 rintro ⟨k, rd, sd, a0, b0, va0, vb0⟩ ⟨hk, s', hs, hrec⟩
 simp only at hk hs hrec
 simp only
 have hfin := hrec.fine
 have hs1 := send_a pa sa ba ma va0 wa pb sb bb mb vb0 wb m N B a0 b0 most hm hfin.1 hfin.2 hB hN
 obtain ⟨b1, hb1⟩ : ∃ b1, b1 = (sndF m N most a0 b0).2 := ⟨_, rfl⟩
 have hc : Fine m N B b1 ∧ (sndF m N most a0 b0).1 = 0 ∧ (sndF m N most b1 a0).1 = 0 := by
  rw [hb1]
  cases hrec <;> exact ⟨by assumption, by assumption, by assumption⟩
 obtain ⟨c1, c2, c3⟩ := hc
 have hs2 := fun vb1 => send_a pb sb bb mb vb1 wb pa sa ba ma va0 wa m N B b1 a0 most hm c1 hfin.1 hB hN
 simp only [c2, c3, ← hb1] at hs1 hs2
 obtain ⟨n1, hn1⟩ : ∃ n1, n1 = (sndL N most a0 b0).length := ⟨_, rfl⟩
 obtain ⟨n2, hn2⟩ : ∃ n2, n2 = (sndL N most b1 a0).length := ⟨_, rfl⟩
 have hl1 := sndL_len N most a0 b0
 have hl2 := sndL_len N most b1 a0
 simp only [← hn1, ← hn2] at hs1 hs2 hl1 hl2
 repeat' (first|refine Sp.h ?_|refine Lk.r rfl ?_|refine Rf.mk rfl ?_|refine xO ?_|fail)
 refine xW (hs1) ?_
 rintro _ _ ⟨rfl, vb1, rfl⟩
 repeat' (first|refine Sp.h ?_|refine Lk.r rfl ?_|refine Rf.mk rfl ?_|refine xA ?_|fail)
 have hs2' := hs2 vb1
 refine xW (hs2') ?_
 rintro _ _ ⟨rfl, va1, rfl⟩
 by_cases hz : n1 + n2 = 0
 ·have hz' : (n1 : Int) + (n2 : Int) = 0 := by omega
  obtain ⟨e1, e2, e3, e4⟩ : k = 1 ∧ s' = 0 ∧ a' = (sndF m N most b1 a0).2 ∧ b' = b1 := by
   cases hrec with
   | last => exact ⟨rfl, rfl, by rw [hb1], by rw [hb1]⟩
   | step _ _ _ _ _ h9 _ => rw [← hb1, ← hn1, ← hn2] at h9;omega
  subst e1;subst e2;subst e3;subst e4
  have hz1 : n1 = 0 := by omega
  have hz2 : n2 = 0 := by omega
  subst hz1;subst hz2
  have hRS : (rd : Int) + 1 = (R : Int) ∧ (sd : Int) + (((0 : Nat) : Int) + ((0 : Nat) : Int)) = (S : Int) := by omega
  obtain ⟨hR1, hS1⟩ := hRS
  repeat' (first|refine Sp.h ?_|refine Lk.r rfl ?_|refine Rf.mk rfl ?_|refine xA ?_|refine xN ?_|refine xO ?_|fail)
  rw [hR1, hS1]
  exact ⟨_, prR2 pa sa ba ma va1 wa pb sb bb mb vb1 wb m _ b', .tup (.same (.same (.same (.z)))), rfl, va1, vb1, rfl⟩
 ·have hz' : ¬ (n1 : Int) + (n2 : Int) = 0 := by omega
  obtain ⟨k', s'', e1, e2, e3⟩ : ∃ k' s'', k = k' + 1 ∧ s' = n1 + n2 + s'' ∧ RecK m N B most (sndF m N most b1 a0).2 b1 k' s'' a' b' := by
   cases hrec with
   | last _ _ _ _ _ h8 h9 => rw [← hb1] at h9;rw [h8] at hn1;rw [h9] at hn2;simp only [List.length_nil] at hn1 hn2;omega
   | step _ _ _ _ _ _ h9 => exact ⟨_, _, rfl, by rw [hn1, hn2, hb1], by rw [hb1];rw [← hb1] at h9 ⊢;exact h9⟩
  repeat' (first|refine Sp.h ?_|refine Lk.r rfl ?_|refine Rf.mk rfl ?_|refine xA ?_|refine xB ?_|refine xO ?_|fail)
  refine PA.lp (k', rd + 1, sd + (n1 + n2), (sndF m N most b1 a0).2, b1, va1, vb1) xE ⟨⟨by simp only;omega, s'', by simp only;omega, e3⟩, by simp only;omega⟩
end Go.Proofs.YtmllihbhphnolaaGreat
namespace Go.Proofs.YtmllihbhphnolaaGreat
open Go Go.CF
set_option maxRecDepth 20000
section
variable (pb sp bb mb : Nat) (m : ModS) (v vc : Value) (p : PrS)
theorem pstore_a : CallA Tryz.prog 33 [pm pb] (prR pb sp bb mb m v vc p) fun r own => r = pm sp ∧ own = prR pb sp bb mb m v vc p := by
 refine CallA.of pg ord33 Tryz.func33 rfl Tryz.ntmps33 Tryz.results33 rfl fun h0 G0 O0 => ?_
 repeat' (first|refine Sp.h ?_|refine Lk.r rfl ?_|refine Rf.mk rfl ?_|refine xT ?_|refine xN ?_|fail)
 exact ⟨_, prR pb sp bb mb m v vc p, .one (.same (.z)), rfl, rfl⟩
theorem perr_a : CallA Tryz.prog 114 [pm pb] (prR pb sp bb mb m v vc p) fun r own => r = it p.err ∧ own = prR pb sp bb mb m v vc p := by
 refine CallA.of pg ord114 Tryz.func114 rfl Tryz.ntmps114 Tryz.results114 rfl fun h0 G0 O0 => ?_
 repeat' (first|refine Sp.h ?_|refine Lk.r rfl ?_|refine Rf.mk rfl ?_|refine xT ?_|refine xN ?_|fail)
 exact ⟨_, prR pb sp bb mb m v vc p, .one (.same (.z)), rfl, rfl⟩
theorem pheld_a {N : Nat} (h : HldOK N p.H) : CallA Tryz.prog 47 [pm pb] (prR pb sp bb mb m v vc p) fun r own => r = evs (ordE (p.H.map (·.2))) ∧ own = prR pb sp bb mb m v vc p := by
 have h1 := dheld_a bb vc mb p.c p.H h
 refine CallA.of pg ord47 Tryz.func47 rfl Tryz.ntmps47 Tryz.results47 rfl fun h0 G0 O0 => ?_
 repeat' (first|refine Sp.h ?_|refine Lk.r rfl ?_|refine Rf.mk rfl ?_|refine xT ?_|fail)
 refine xW (h1) ?_
 rintro _ _ ⟨rfl, rfl⟩
 repeat' (first|refine Sp.h ?_|refine Lk.r rfl ?_|refine xN ?_|fail)
 exact ⟨_, prR pb sp bb mb m v vc p, .one (.same (.z)), rfl, rfl⟩
end
theorem anew_a (s : Nat) (m : ModS) (b : NowS) (v : Value) (evl : List EvS) (w : NowS) (h : ValC w.clock) : CallA Tryz.prog 28 [pm s] [stoR s m b v w, arrR v 37 13 evl evC] fun r own => ∃ pb bb vc mb, r = .tup [pm pb, it 0] ∧ own = prR pb s bb mb m v vc ⟨⟨b, evl, w⟩, w.clock, [], 0⟩ := by
 have h1 := sclock_p s m b v w (by have := h.2.2;omega)
 have h2 := dnew_a w.clock h
 refine CallA.of pg ord28 Tryz.func28 rfl Tryz.ntmps28 Tryz.results28 rfl fun h0 G0 O0 => ?_
 repeat' (first|refine Sp.h ?_|refine Lk.r rfl ?_|refine Rf.mk rfl ?_|refine xB ?_|fail)
 refine xW (h1) ?_
 rintro _ _ ⟨rfl, rfl⟩
 repeat' (first|refine Sp.h ?_|refine Lk.r rfl ?_|refine Rf.mk rfl ?_|fail)
 refine xW (h2) ?_
 rintro _ _ ⟨bb, vc, mb, rfl, rfl⟩
 repeat' (first|refine Sp.h ?_|refine Lk.r rfl ?_|refine Rf.mk rfl ?_|refine xA ?_|(refine All.mk ?_;intro _)|(apply Fk.r;focus repeat' first|infer_instance|constructor)|refine xN ?_|fail)
 rename_i pb
 exact ⟨_, prR pb s bb mb m v vc ⟨⟨b, evl, w⟩, w.clock, [], 0⟩, .tup (.same (.same (.z))), pb, bb, vc, mb, rfl, rfl⟩
def GoodN (m : ModS) (n : Int) (ld : List Int) : Prop := 1 ≤ n ∧ n ≤ 5 ∧ ld.length = strF m ∧ insS ld
theorem new35_bad (m : ModS) (n : Int) (ld : List Int) (hm : MOK m) (h : ¬ GoodN m n ld) : CallP Tryz.prog 77 [mdl m, it n, ints ld] (.tup [.val (.pointer none), it 1]) := by
 have h1 := cells35_p m hm.lay
 have h2 := inside35_p ld
 have hst := hm.str
 unfold GoodN at h
 by_cases h3 : insS ld
 ·rw [decide_eq_true h3] at h2
  by_cases h4 : 1 ≤ n ∧ n ≤ 5
  ·have h5 : ¬ (ld.length : Int) = (strF m : Nat) := fun h9 => h ⟨h4.1, h4.2, by omega, h3⟩
   refine CallA.of pg ord77 Tryz.func77 rfl Tryz.ntmps77 Tryz.results77 rfl fun h0 G0 O0 => ?_
   repeat' (first|refine Sp.h ?_|refine Lk.r rfl ?_|refine Rf.mk rfl ?_|refine xB ?_|(refine Im.mk ?_;intro _)|(refine All.mk ?_;intro _)|refine xT ?_|refine Ch.l ⟨rfl, rfl⟩ ?_|refine xN ?_|(apply Cl.p (h1);(focus ((repeat' (first|exact Lend.nil|apply Lend.keep|fail));done)))|(apply Cl.p (h2);(focus ((repeat' (first|exact Lend.nil|apply Lend.keep|fail));done))))
   all_goals exact Fin.p rfl rfl
  ·refine CallA.of pg ord77 Tryz.func77 rfl Tryz.ntmps77 Tryz.results77 rfl fun h0 G0 O0 => ?_
   repeat' (first|refine Sp.h ?_|refine Lk.r rfl ?_|refine Rf.mk rfl ?_|refine xA ?_|refine xB ?_|(refine Bd.mk ?_ ?_ <;> intro _)|(refine All.mk ?_;intro _)|refine xN ?_|(apply Cl.p (h1);(focus ((repeat' (first|fail));done)))|(apply Cl.p (h2);(focus ((repeat' (first|fail));done))))
   all_goals first
    | exact Fin.p rfl rfl
    | omega
 ·rw [decide_eq_false h3] at h2
  refine CallA.of pg ord77 Tryz.func77 rfl Tryz.ntmps77 Tryz.results77 rfl fun h0 G0 O0 => ?_
  repeat' (first|refine Sp.h ?_|refine Lk.r rfl ?_|refine Rf.mk rfl ?_|refine xA ?_|refine xB ?_|(refine Bd.mk ?_ ?_ <;> intro _)|(refine Im.mk ?_;intro _)|(refine All.mk ?_;intro _)|refine xT ?_|refine Ch.l ⟨rfl, rfl⟩ ?_|refine xN ?_|(apply Cl.p (h1);(focus ((repeat' (first|exact Lend.nil|apply Lend.keep|fail));done)))|(apply Cl.p (h2);(focus ((repeat' (first|exact Lend.nil|apply Lend.keep|fail));done))))
  all_goals exact Fin.p rfl rfl
noncomputable def newP (m : ModS) (n : Nat) (ld : List Int) : PrS := ⟨⟨stN m n ld [], [], stN m n ld []⟩, List.replicate n 0, [], 0⟩
theorem valC_zero {n : Nat} (h : 1 ≤ n ∧ n ≤ 5) : ValC (List.replicate n 0) := ⟨fun x hx => by rw [(List.mem_replicate.1 hx).2];unfold rngK;omega, by simp;omega, by simp;omega⟩
theorem hldOK_nil (N : Nat) : HldOK N [] := ⟨fun p hp => (nomatch hp), fun p hp => (nomatch hp), fun p hp => (nomatch hp), by simp, fun i j a b h => by simp at h⟩
theorem newP_fine {m : ModS} {n : Nat} {ld : List Int} (h : 1 ≤ n ∧ n ≤ 5) (hl : ld.length = strF m) : Fine m n 0 (newP m n ld) :=
 ⟨⟨⟨valC_zero h, hl, List.Pairwise.nil, Nat.zero_le _⟩, by simp [newP, stN, clkE], by simp [newP], hldOK_nil n, by simp [newP], by simp [newP, stN]⟩, fun e he => (nomatch he)⟩
theorem peer_bad (m : ModS) (n : Int) (ld : List Int) (hm : MOK m) (h : ¬ GoodN m n ld) : CallP Tryz.prog 29 [mdl m, it n, ints ld] (.val (.pointer none)) := by
 have h1 := new35_bad m n ld hm h
 refine CallA.of pg ord29 Tryz.func29 rfl Tryz.ntmps29 Tryz.results29 rfl fun h0 G0 O0 => ?_
 repeat' (first|refine Sp.h ?_|refine Lk.r rfl ?_|refine Rf.mk rfl ?_|refine xB ?_|(refine All.mk ?_;intro _)|refine xT ?_|refine Ch.l ⟨rfl, rfl⟩ ?_|refine xN ?_|(apply Cl.p (h1);(focus repeat' (first|exact Lend.nil|apply Lend.keep|fail))))
 all_goals exact Fin.p rfl rfl
theorem peer_a (m : ModS) (n : Nat) (ld : List Int) (hm : MOK m) (h : 1 ≤ n ∧ n ≤ 5) (hl : ld.length = strF m) (hs : insS ld) : CallA Tryz.prog 29 [mdl m, it n, ints ld] [] fun r own => ∃ pb sp bb mb v vc, r = pm pb ∧ own = prR pb sp bb mb m v vc (newP m n ld) := by
 have h1 : CallA Tryz.prog 77 [mdl m, it n, ints ld] [] fun q own => ∃ p v, q = .tup [pm p, it 0] ∧ own = [stoR p m (stN m n ld []) v (stN m n ld []), arrR v 37 13 ([] : List EvS) evC] := new35_a m n ld hm h hl hs
 have h2 := fun p v => anew_a p m (stN m n ld []) v [] (stN m n ld []) (valC_zero h)
 have h3 := fun pb sp bb mb v vc => pstore_a pb sp bb mb m v vc (newP m n ld)
 refine CallA.of pg ord29 Tryz.func29 rfl Tryz.ntmps29 Tryz.results29 rfl fun h0 G0 O0 => ?_
 repeat' (first|refine Sp.h ?_|refine Lk.r rfl ?_|refine Rf.mk rfl ?_|(refine All.mk ?_;intro _)|refine xT ?_|refine Ch.l ⟨rfl, rfl⟩ ?_|fail)
 refine xW (h1) ?_
 rintro _ _ ⟨p, v, rfl, rfl⟩
 have h2' := h2 p v
 repeat' (first|refine Sp.h ?_|refine Lk.r rfl ?_|refine Rf.mk rfl ?_|refine xA ?_|refine xB ?_|fail)
 refine xW (h2') ?_
 rintro _ _ ⟨pb, bb, vc, mb, rfl, rfl⟩
 have h3' := h3 pb p bb mb v vc
 repeat' (first|refine Sp.h ?_|refine Lk.r rfl ?_|refine Rf.mk rfl ?_|refine xA ?_|refine xB ?_|fail)
 refine xW (h3') ?_
 rintro _ _ ⟨rfl, rfl⟩
 repeat' (first|refine Sp.h ?_|refine Lk.r rfl ?_|refine Rf.mk rfl ?_|refine xB ?_|refine xN ?_|fail)
 exact ⟨_, prR pb p bb mb m v vc (newP m n ld), .one (.same (.z)), pb, p, bb, mb, v, vc, rfl, rfl⟩
end Go.Proofs.YtmllihbhphnolaaGreat
namespace Go.Proofs.YtmllihbhphnolaaGreat
open Go Go.CF
set_option maxRecDepth 20000
theorem hld_nodup {N : Nat} {H : List (List Int × EvS)} (h : HldOK N H) : (H.map (·.1)).Nodup := by
 have h1 := uniq_pair.1 h.nd
 rw [List.pairwise_map] at h1
 refine List.pairwise_map.2 (List.Pairwise.imp_of_mem (fun {a b} ha hb h9 h8 => h9 ?_) h1)
 have ka := h.key a ha;have kb := h.key b hb
 unfold nm
 rw [← ka, ← kb, h8]
theorem look_none {β : Type} {H : List (List Int × β)} {k : List Int} (h : lookL H k = none) : ∀ p ∈ H, p.1 ≠ k := fun p hp h9 => by
 unfold lookL at h
 rw [Option.map_eq_none_iff, List.find?_eq_none] at h
 exact h p hp (decide_eq_true h9)
theorem look_some {β : Type} {H : List (List Int × β)} {k : List Int} (h : (lookL H k).isSome = true) : ∃ p ∈ H, p.1 = k := by
 cases h9 : lookL H k with
 | none => rw [h9] at h;cases h
 | some v =>
  unfold lookL at h9
  cases h8 : H.find? fun p => decide (p.1 = k) with
  | none => rw [h8] at h9;cases h9
  | some p =>
   have := List.find?_some h8
   exact ⟨p, List.mem_of_find?_eq_some h8, of_decide_eq_true this⟩
theorem del_mem {N : Nat} {H : List (List Int × EvS)} (h : HldOK N H) {k : List Int} {q : List Int × EvS} (hq : q ∈ delL H k) : q ∈ H ∧ q.1 ≠ k := by
 refine ⟨(delL_sub k H).mem hq, ?_⟩
 have h1 := lookL_del (hld_nodup h) k k
 rw [if_pos rfl] at h1
 exact look_none h1 q hq
theorem del_keep {β : Type} {k : List Int} {q : List Int × β} : ∀ {H : List (List Int × β)}, q ∈ H → q.1 ≠ k → q ∈ delL H k
 | (k', u) :: H, hq, hk => by
  simp only [delL]
  split
  ·rename_i h9
   rcases List.mem_cons.1 hq with rfl|hq
   ·exact absurd h9 hk
   ·exact hq
  ·rcases List.mem_cons.1 hq with rfl|hq
   ·exact List.mem_cons_self
   ·exact List.mem_cons_of_mem _ (del_keep hq hk)
theorem rdy_iff {l D : List EvS} (hc : ClosedE l) (hD : Cau l D) {e : EvS} (he : e ∈ l) : RdyE (clkE (n0 l) D) e ↔ e ∉ D ∧ ∀ d ∈ l, HasC e.past d.rep d.num → d ∈ D := by
 have hr := n0_rng hc he
 have hf := hc.2.2.1 e he
 have hal : AlikeC [clkE (n0 l) D, e.past] := (alike2 _ _).2 ⟨clk_valC hc hD.sub hr, hf.1.1, by rw [clkE_len, hf.2]⟩
 constructor
 ·intro h
  refine ⟨fun h9 => h.1 ((clk_has hc hD he).2 h9), fun d hd hh => (clk_has hc hD hd).1 ?_⟩
  have hin := h.2 hal
  obtain ⟨_, g2, g3, x, g4, g5⟩ := hh
  obtain ⟨y, hy⟩ := get_of (l := clkE (n0 l) D) (i := d.rep.toNat) (by rw [clkE_len, ← hf.2];exact (List.getElem?_eq_some_iff.1 g4).1)
  exact ⟨hal.2 _ (by simp) |>.1, g2, g3, y, hy, by have := hin _ _ _ g4 hy;omega⟩
 ·intro h
  exact ⟨fun h9 => h.1 ((clk_has hc hD he).1 h9), fun _ => clk_ins hc hD he h.2⟩
theorem stlF_end {N : Nat} : ∀ (n : Nat) (c : List Int) (H : List (List Int × EvS)) (out : List EvS), HldOK N H → H.length < n → ∀ q ∈ (stlF n c H out).2.2, ¬ RdyE (stlF n c H out).2.1 q.2
 | 0, c, H, out, h, hn => by omega
 | n + 1, c, H, out, h, hn => by
  simp only [stlF]
  cases he : (ordE (H.map (·.2)))[idxN (rdyB c) (ordE (H.map (·.2)))]? with
  | none =>
   intro q hq hr
   have h1 : idxN (rdyB c) (ordE (H.map (·.2))) < (ordE (H.map (·.2))).length := idxN_lt.2 ⟨q.2, ordE_mem.2 (List.mem_map_of_mem hq), decide_eq_true hr⟩
   rw [List.getElem?_eq_getElem h1] at he
   cases he
  | some e =>
   obtain ⟨p, hp, rfl⟩ := List.mem_map.1 (ordE_mem.1 (List.mem_of_getElem? he))
   have := delL_len (k := [p.2.rep, p.2.num]) ⟨p, hp, h.key p hp⟩
   exact stlF_end n _ _ _ (h.del _) (by omega)
theorem clkE_snoc (n : Nat) (D : List EvS) (e : EvS) : clkE n (D ++ [e]) = cntF (clkE n D) e := by simp only [clkE, List.foldl_append, cntF];rfl
structure BufI (l D : List EvS) (c : List Int) (H : List (List Int × EvS)) : Prop where
 ext : ExtO l D
 clk : c = clkE (n0 l) D
 hld : HldOK (n0 l) H
 hin : ∀ q ∈ H, q.2 ∈ l ∧ q.2 ∉ D
def NrdI (l D : List EvS) (H : List (List Int × EvS)) : Prop := ∀ q ∈ H, ¬ ∀ d ∈ l, HasC q.2.past d.rep d.num → d ∈ D
theorem BufI.step {l D : List EvS} {c : List Int} {H : List (List Int × EvS)} (hc : ClosedE l) (h : BufI l D c H) {e : EvS} (he : e ∈ l) (hr : RdyE c e) : BufI l (D ++ [e]) (cntF c e) (delL H [e.rep, e.num]) := by
 rw [h.clk] at hr
 obtain ⟨h1, h2⟩ := (rdy_iff hc h.ext.all he).1 hr
 refine ⟨h.ext.snoc he h1 h2, by rw [clkE_snoc, ← h.clk], h.hld.del _, fun q hq => ?_⟩
 obtain ⟨hq1, hq2⟩ := del_mem h.hld hq
 refine ⟨(h.hin q hq1).1, fun h9 => ?_⟩
 rcases List.mem_append.1 h9 with h9|h9
 ·exact (h.hin q hq1).2 h9
 ·rw [List.mem_singleton] at h9
  rw [h.hld.key q hq1, h9] at hq2
  exact hq2 rfl
theorem stlF_inv {l D : List EvS} {c : List Int} {H : List (List Int × EvS)} (hc : ClosedE l) (h : BufI l D c H) (n : Nat) :
  BufI l (D ++ (stlF n c H []).1) (stlF n c H []).2.1 (stlF n c H []).2.2 ∧ (∀ q ∈ H, q.2 ∈ D ++ (stlF n c H []).1 ∨ q ∈ (stlF n c H []).2.2) := by
 have := stlF_ind (fun c' K o => BufI l (D ++ o) c' K ∧ (∀ q ∈ H, q.2 ∈ D ++ o ∨ q ∈ K)) (fun d K o p hK h1 hp hr => by
  obtain ⟨b, g⟩ := h1
  have hb := b.step hc (b.hin p hp).1 hr
  rw [List.append_assoc] at hb
  refine ⟨hb, fun q hq => ?_⟩
  rcases g q hq with g|g
  ·left;rw [← List.append_assoc];exact List.mem_append_left _ g
  ·by_cases hqp : q.1 = [p.2.rep, p.2.num]
   ·left
    have hqe : q.2 = p.2 := by
     have h9 := hK.key q g
     rw [hqp] at h9
     simp only [List.cons.injEq, and_true] at h9
     exact uniqP_of hc.2.1 _ (b.hin q g).1 _ (b.hin p hp).1 h9.1.symm h9.2.symm
    rw [hqe, ← List.append_assoc]
    exact List.mem_append_right _ List.mem_cons_self
   ·exact .inr (del_keep g hqp)) n c H [] h.hld ⟨by rw [List.append_nil];exact h, fun q hq => .inr hq⟩
 exact this.2
theorem extO_nodup {l D : List EvS} (h : ExtO l D) : D.Nodup := by
 refine List.pairwise_iff_getElem.2 fun i j hi hj hij h9 => ?_
 refine (h.nxt j _ (List.getElem?_eq_getElem hj)).1 ?_
 rw [← h9]
 exact List.mem_of_getElem? (i := i) (by rw [List.getElem?_take, if_pos hij, List.getElem?_eq_getElem hi])
theorem extO_len {l D : List EvS} (h : ExtO l D) : D.length ≤ l.length := (extO_nodup h).length_le_of_subset h.sub
theorem hld_len {l : List EvS} {N : Nat} {H : List (List Int × EvS)} (h : HldOK N H) (hin : ∀ q ∈ H, q.2 ∈ l) : H.length ≤ l.length := by
 have h1 : (H.map (·.2)).Nodup := (uniq_pair.1 h.nd).imp fun {a b} h9 h8 => h9 (by rw [h8])
 have := h1.length_le_of_subset (l₂ := l) fun x hx => by obtain ⟨q, hq, rfl⟩ := List.mem_map.1 hx;exact hin q hq
 rwa [List.length_map] at this
structure AddR (l D : List EvS) (H : List (List Int × EvS)) (e : EvS) (r : Int × List EvS × List Int × List (List Int × EvS)) : Prop where
 b : BufI l (D ++ r.2.1) r.2.2.1 r.2.2.2
 nrd : NrdI l (D ++ r.2.1) r.2.2.2
 got : e ∈ D ++ r.2.1 ∨ ∃ q ∈ r.2.2.2, q.2 = e
 keep : ∀ q ∈ H, q.2 ∈ D ++ r.2.1 ∨ q ∈ r.2.2.2
 out : ∀ x ∈ r.2.1, x = e ∨ ∃ q ∈ H, q.2 = x
 mem : ∀ q ∈ r.2.2.2, q ∈ H ∨ q.2 = e
theorem addB_inv {l D : List EvS} {c : List Int} {H : List (List Int × EvS)} (hc : ClosedE l) (hl : l.length ≤ 100) (h : BufI l D c H) (hn : NrdI l D H) {e : EvS} (he : e ∈ l) : AddR l D H e (addB c H e) := by
 have hf := hc.2.2.1 e he
 have hcl : c.length = n0 l := by rw [h.clk, clkE_len]
 have ho := addB_ok e h.hld hcl
 have hHl := hld_len h.hld fun q hq => (h.hin q hq).1
 have hid : ∀ k : Int, addB c H e = (k, [], c, H) → (e ∈ D ∨ ∃ q ∈ H, q.2 = e) → AddR l D H e (addB c H e) := fun k h9 h8 => by
  rw [h9]
  exact ⟨by rw [List.append_nil];exact h, by rw [List.append_nil];exact hn, by rw [List.append_nil];exact h8, fun q hq => .inr hq, fun x hx => (nomatch hx), fun q hq => .inl hq⟩
 have k1 : ¬ (¬ FormedE e ∨ e.past.length ≠ c.length) := by
  rintro (h9|h9)
  ·exact h9 hf.1
  ·exact h9 (by rw [hcl];exact hf.2)
 by_cases q1 : (lookL H [e.rep, e.num]).isSome = true ∨ HasC c e.rep e.num
 ·refine hid 6 (by rw [addB, if_neg k1, if_pos q1]) ?_
  rcases q1 with q1|q1
  ·obtain ⟨p, hp, hk⟩ := look_some q1
   rw [h.hld.key p hp] at hk
   simp only [List.cons.injEq, and_true] at hk
   exact .inr ⟨p, hp, uniqP_of hc.2.1 _ (h.hin p hp).1 _ he hk.1 hk.2⟩
  ·rw [h.clk] at q1
   exact .inl ((clk_has hc h.ext.all he).1 q1)
 have hlk : lookL H [e.rep, e.num] = none := by
  cases h9 : lookL H [e.rep, e.num] with
  | none => rfl
  | some v => exact absurd (.inl (by rw [h9];rfl)) q1
 have hne : ∀ q ∈ H, q.1 ≠ [e.rep, e.num] := look_none hlk
 by_cases q3 : RdyE c e
 ·have hr : addB c H e = (0, e :: (stlF ((delL H [e.rep, e.num]).length + 1) (cntF c e) (delL H [e.rep, e.num]) []).1, (stlF ((delL H [e.rep, e.num]).length + 1) (cntF c e) (delL H [e.rep, e.num]) []).2) := by rw [addB, if_neg k1, if_neg q1, if_pos q3]
  have hb := h.step hc he q3
  obtain ⟨s1, s2⟩ := stlF_inv hc hb ((delL H [e.rep, e.num]).length + 1)
  have s3 := stlF_end ((delL H [e.rep, e.num]).length + 1) (cntF c e) (delL H [e.rep, e.num]) [] hb.hld (Nat.lt_succ_self _)
  rw [List.append_assoc, List.singleton_append] at s1 s2
  have o3 := ho.out
  have o4 := ho.mem
  rw [hr] at o3 o4 ⊢
  refine ⟨s1, fun q hq h9 => s3 q hq ?_, .inl (List.mem_append_right _ List.mem_cons_self), fun q hq => s2 q (del_keep hq (hne q hq)), o3, o4⟩
  have h8 := s1.hin q hq
  have := (rdy_iff hc s1.ext.all h8.1).2 ⟨h8.2, h9⟩
  rwa [← s1.clk] at this
 ·have hr : addB c H e = (0, [], c, updL H [e.rep, e.num] e) := by rw [addB, if_neg k1, if_neg q1, if_neg q3, if_neg (by omega)]
  have hu := updL_none H [e.rep, e.num] e hlk
  have hnd : e ∉ D := fun h9 => q1 (.inr (by rw [h.clk];exact (clk_has hc h.ext.all he).2 h9))
  have hall : ∀ q ∈ updL H [e.rep, e.num] e, q ∈ H ∨ q = ([e.rep, e.num], e) := fun q hq => by
   rw [hu] at hq
   rcases List.mem_append.1 hq with hq|hq
   ·exact .inl hq
   ·exact .inr (List.mem_singleton.1 hq)
  have hld := ho.hld
  rw [hr] at hld ⊢
  refine ⟨⟨by rw [List.append_nil];exact h.ext, by rw [List.append_nil];exact h.clk, hld, fun q hq => ?_⟩, fun q hq => ?_, .inr ⟨([e.rep, e.num], e), by simp only;rw [hu];simp, rfl⟩, fun q hq => .inr (by simp only;rw [hu];exact List.mem_append_left _ hq), fun x hx => (nomatch hx), fun q hq => ?_⟩
  ·rw [List.append_nil]
   rcases hall q hq with hq|rfl
   ·exact h.hin q hq
   ·exact ⟨he, hnd⟩
  ·rw [List.append_nil]
   rcases hall q hq with hq|rfl
   ·exact hn q hq
   ·intro h9
    exact q3 (by rw [h.clk];exact (rdy_iff hc h.ext.all he).2 ⟨hnd, h9⟩)
  ·rcases hall q hq with hq|rfl
   ·exact .inl hq
   ·exact .inr rfl
end Go.Proofs.YtmllihbhphnolaaGreat
