/- Part 5 of the ground of this proof: what its texts say of the model, the program and the plain data; conditions: those that are named. -/
import Derived.Test.YtajenkpjcbaadaaGreatD04
namespace Go.Proofs.YtajenkpjcbaadaaGreat
open Go Go.CF
set_option maxRecDepth 20000
structure TblS where
 name : ByteArray
 kind : Int
 cols : List Int
 lo : Int
 hi : Int
 first : Int
abbrev it (x : Int) : AV := .val (.int .i64 x)
def tblC (t : TblS) : List AV := [sv t.name, it t.kind, ints t.cols, it t.lo, it t.hi, it t.first]
abbrev tbls (l : List TblS) : AV := .sl 6 l tblC
def Sound (sizes : List Int) : Prop := ∀ x ∈ sizes, 1 ≤ x ∧ x ≤ 6
noncomputable instance (sizes : List Int) : Decidable (Sound sizes) := Classical.propDecidable _
theorem sound_p (c : List Int) : CallP Tryz.prog 169 [ints c] (.val (.bool (decide (Sound c)))) := by
 refine CallA.of pg ord169 Tryz.func169 rfl Tryz.ntmps169 Tryz.results169 rfl fun h0 G0 O0 => ?_
 repeat' (first|refine Sp.h ?_|refine Lk.r rfl ?_|refine Rf.mk rfl ?_|fail)
 refine CA.loop (fun i : Nat => ⟨[(0, ints c), (3, .val (.int .i64 i))], []⟩) (fun i => i ≤ c.length ∧ ∀ x ∈ c.take i, 1 ≤ x ∧ x ≤ 6) (fun i => c.length - i) 0 xE ⟨Nat.zero_le _, by simp⟩ ?_
 rintro i ⟨hi, ha⟩
 by_cases hin : i < c.length
 ·obtain ⟨x, hx⟩ := get_of hin
  repeat' (first|refine Sp.h ?_|refine Lk.r rfl ?_|refine Rf.mk rfl ?_|refine xA ?_|refine xB ?_|(refine Bd.mk ?_ ?_ <;> intro _)|refine Im.mk fun _=>?_|refine xI ?_|refine xN ?_|refine xO ?_|fail)
  all_goals first
   | exact PA.lp (i + 1) xE ⟨⟨hin, all_succ hx ha ⟨by omega, by omega⟩⟩, by omega⟩
   | exact Fin.p rfl (vb (decide_eq_false (fun h => by have h1 := h x (List.mem_of_getElem? hx);omega)).symm)
 ·have : i = c.length := by omega
  subst this
  rw [List.take_length] at ha
  repeat' (first|refine Sp.h ?_|refine Lk.r rfl ?_|refine Rf.mk rfl ?_|refine xB ?_|refine Im.mk fun _=>?_|refine xN ?_|fail)
  exact Fin.p rfl (vb (decide_eq_true (show Sound c from ha)).symm)
def ColOK (sizes cols : List Int) : Prop := cols.length ≤ 3 ∧ Sound sizes ∧ ∀ x ∈ cols, 0 ≤ x ∧ x < sizes.length
noncomputable instance (sizes cols : List Int) : Decidable (ColOK sizes cols) := Classical.propDecidable _
def prodF (sizes cols : List Int) : Int := cols.foldl (fun n c => n * (sizes[c.toNat]?.getD 1)) 1
noncomputable def numF (sizes cols : List Int) : Int := if ColOK sizes cols then prodF sizes cols else 0
theorem prod_succ {sizes cols : List Int} {i : Nat} {x y : Int} (hx : cols[i]? = some x) (hy : sizes[x.toNat]? = some y) : prodF sizes (cols.take (i + 1)) = prodF sizes (cols.take i) * y := by
 unfold prodF;rw [List.take_add_one, hx, List.foldl_append];simp [hy]
theorem prod_le {sizes : List Int} (hs : Sound sizes) : ∀ cols : List Int, 1 ≤ prodF sizes cols ∧ prodF sizes cols ≤ 6 ^ cols.length := by
 have key : ∀ (cols : List Int) (n : Int) (k : Nat), 1 ≤ n → n ≤ 6 ^ k → 1 ≤ cols.foldl (fun n c => n * (sizes[c.toNat]?.getD 1)) n ∧ cols.foldl (fun n c => n * (sizes[c.toNat]?.getD 1)) n ≤ 6 ^ (k + cols.length) := by
  intro cols
  induction cols with
  | nil => exact fun n k h1 h2 => ⟨h1, h2⟩
  | cons c cols ih =>
   intro n k h1 h2
   have hy : 1 ≤ sizes[c.toNat]?.getD 1 ∧ sizes[c.toNat]?.getD 1 ≤ 6 := by
    cases h : sizes[c.toNat]? with
    | none => simp
    | some y => exact hs y (List.mem_of_getElem? h)
   have := ih (n * (sizes[c.toNat]?.getD 1)) (k + 1) (by have := Int.mul_le_mul h1 hy.1 (by omega) (by omega);omega) (by rw [Int.pow_succ];exact Int.mul_le_mul h2 hy.2 (by omega) (Int.le_trans (by omega) h2))
   rw [List.length_cons, show k + (cols.length + 1) = k + 1 + cols.length by omega]
   exact this
 intro cols
 have := key cols 1 0 (by omega) (by simp)
 rwa [Nat.zero_add] at this
theorem number_p (sizes cols : List Int) : CallP Tryz.prog 170 [ints sizes, ints cols] (it (numF sizes cols)) := by
 refine CallA.of pg ord170 Tryz.func170 rfl Tryz.ntmps170 Tryz.results170 rfl fun h0 G0 O0 => ?_
 by_cases h1 : cols.length ≤ 3 ∧ Sound sizes
 ·obtain ⟨hl, hs⟩ := h1
  repeat' (first|refine Sp.h ?_|refine Lk.r rfl ?_|refine Rf.mk rfl ?_|refine xA ?_|refine xB ?_|refine Im.mk fun _=>?_|(apply Cl.p (sound_p _);focus repeat' constructor))
  refine CA.loop (fun i : Nat => ⟨[(0, ints sizes), (1, ints cols), (5, it (prodF sizes (cols.take i))), (6, it i)], []⟩) (fun i => i ≤ cols.length ∧ ∀ x ∈ cols.take i, 0 ≤ x ∧ x < sizes.length) (fun i => cols.length - i) 0 xE ⟨Nat.zero_le _, by simp⟩ ?_
  rintro i ⟨hi, ha⟩
  by_cases hin : i < cols.length
  ·obtain ⟨x, hx⟩ := get_of hin
   by_cases hb : 0 ≤ x ∧ x < sizes.length
   ·obtain ⟨y, hy⟩ := get_of (l := sizes) (i := x.toNat) (by omega)
    have hb1 := hb.1
    have hys := hs y (List.mem_of_getElem? hy)
    have hp := prod_le hs (cols.take i)
    have hp2 := prod_succ hx hy
    have hp3 := prod_le hs (cols.take (i + 1))
    have h216 : ∀ n : Nat, n ≤ 3 → (6 : Int) ^ n ≤ 216 := fun n hn => by match n, hn with | 0, _ => decide | 1, _ => decide | 2, _ => decide | 3, _ => decide
    have hp4 : prodF sizes (cols.take i) * y ≤ 216 := by rw [← hp2];exact Int.le_trans hp3.2 (h216 _ (by rw [List.length_take];omega))
    have hp5 : 1 ≤ prodF sizes (cols.take i) * y := by rw [← hp2];exact hp3.1
    repeat' (first|refine Sp.h ?_|refine Lk.r rfl ?_|refine Rf.mk rfl ?_|refine xA ?_|refine xB ?_|refine xP ?_|refine Im.mk fun _=>?_|refine xI ?_|(apply Ix.r;(focus assumption);(focus omega))|refine xO ?_|fail)
    rw [← hp2]
    exact PA.lp (i + 1) xE ⟨⟨hin, all_succ hx ha hb⟩, by omega⟩
   ·repeat' (first|refine Sp.h ?_|refine Lk.r rfl ?_|refine Rf.mk rfl ?_|refine xA ?_|refine xB ?_|(refine Bd.mk ?_ ?_ <;> intro _)|refine Im.mk fun _=>?_|refine xI ?_|refine xN ?_|fail)
    all_goals exact Fin.p rfl (by rw [numF, if_neg (fun h => hb (h.2.2 x (List.mem_of_getElem? hx)))])
  ·have : i = cols.length := by omega
   subst this
   rw [List.take_length] at ha
   simp only [List.take_length]
   repeat' (first|refine Sp.h ?_|refine Lk.r rfl ?_|refine Rf.mk rfl ?_|refine xB ?_|refine Im.mk fun _=>?_|refine xN ?_|fail)
   exact Fin.p rfl (by rw [numF, if_pos ⟨hl, hs, ha⟩])
 ·repeat' (first|refine Sp.h ?_|refine Lk.r rfl ?_|refine Rf.mk rfl ?_|refine xA ?_|refine xB ?_|(refine Bd.mk ?_ ?_ <;> intro _)|refine Im.mk fun _=>?_|refine xN ?_|(apply Cl.p (sound_p _);focus repeat' constructor))
  all_goals first
   | exact Fin.p rfl (by rw [numF, if_neg (fun h => h1 ⟨h.1, h.2.1⟩)])
   | exact (h1 ⟨by omega, by assumption⟩).elim
end Go.Proofs.YtajenkpjcbaadaaGreat
namespace Go.Proofs.YtajenkpjcbaadaaGreat
open Go Go.CF
set_option maxRecDepth 20000
def TabOK (sizes : List Int) (t : TblS) : Prop := ColOK sizes t.cols ∧ 0 ≤ t.kind ∧ t.kind ≤ 5 ∧ -9999 ≤ t.lo ∧ t.lo ≤ t.hi ∧ t.hi ≤ 9999
def LayOK (sizes : List Int) (l : List TblS) : Prop := sizes.length ≤ 4 ∧ Sound sizes ∧ l.length ≤ 12 ∧ ∀ t ∈ l, TabOK sizes t
def isStrict (k : Int) : Prop := k = 0 ∨ k = 1
noncomputable instance (k : Int) : Decidable (isStrict k) := Classical.propDecidable _
theorem strict9_p (k : Int) : CallP Tryz.prog 172 [it k] (.val (.bool (decide (isStrict k)))) := by
 refine CallA.of pg ord172 Tryz.func172 rfl Tryz.ntmps172 Tryz.results172 rfl fun h0 G0 O0 => ?_
 repeat' (first|refine Sp.h ?_|refine Lk.r rfl ?_|refine Rf.mk rfl ?_|refine xA ?_|refine xB ?_|(refine Bd.mk ?_ ?_ <;> intro _)|refine xN ?_|fail)
 all_goals refine Fin.p rfl (vb ?_)
 all_goals first
  | exact decide_eq_decide.2 (by unfold isStrict;omega)
  | exact (decide_eq_true (by unfold isStrict;omega)).symm
theorem num_le (sizes cols : List Int) : 0 ≤ numF sizes cols ∧ numF sizes cols ≤ 216 := by
 unfold numF
 split
 ·rename_i h
  have hp := prod_le h.2.1 cols
  have h216 : ∀ n : Nat, n ≤ 3 → (6 : Int) ^ n ≤ 216 := fun n hn => by match n, hn with | 0, _ => decide | 1, _ => decide | 2, _ => decide | 3, _ => decide
  have := h216 _ h.1
  omega
 ·omega
theorem num_ne {sizes cols : List Int} (h : numF sizes cols ≠ 0) : ColOK sizes cols := by
 unfold numF at h
 split at h
 ·assumption
 ·exact absurd rfl h
abbrev CallF (P : Program) (f : FuncId) (args : List AV) (Q : Prop) : Prop := CallA P f args [] fun r own => ∃ b, r = .val (.bool b) ∧ own = [] ∧ (b = true → Q)
set_option maxHeartbeats 4000000 in
theorem valid9_c (sizes : List Int) (l : List TblS) : CallF Tryz.prog 136 [ints sizes, tbls l] (LayOK sizes l) := by
 refine CallA.of pg ord136 Tryz.func136 rfl Tryz.ntmps136 Tryz.results136 rfl fun h0 G0 O0 => ?_
 repeat' (first|refine Sp.h ?_|refine Lk.r rfl ?_|refine Rf.mk rfl ?_|refine xA ?_|refine xB ?_|(refine Bd.mk ?_ ?_ <;> intro _)|refine Im.mk fun _=>?_|refine xN ?_|(apply Cl.p (sound_p _);focus repeat' constructor))
 rotate_right
 all_goals try exact ⟨_, _, .one (.same (.z)), _, rfl, rfl, fun h => by cases h⟩
 rename_i hs _ _ _
 refine CA.loop (fun x : Nat × Int × Int => ⟨[(0, ints sizes), (1, tbls l), (5, it x.2.1), (6, it x.2.2), (7, it x.1)], []⟩) (fun x => x.1 ≤ l.length ∧ (∀ t ∈ l.take x.1, TabOK sizes t) ∧ 0 ≤ x.2.1 ∧ x.2.1 ≤ 216 * x.1 ∧ 0 ≤ x.2.2 ∧ x.2.2 ≤ 216 * x.1) (fun x => l.length - x.1) (0, 0, 0) xE ⟨Nat.zero_le _, by simp, by simp, by simp, by simp, by simp⟩ ?_
 rintro ⟨i, a, b⟩ ⟨hi, ht, ha1, ha2, hb1, hb2⟩
 simp only at hi ht ha1 ha2 hb1 hb2
 simp only
 by_cases hin : i < l.length
 ·obtain ⟨t, hti⟩ := get_of hin
  repeat' (first|refine Sp.h ?_|refine Lk.r rfl ?_|refine Rf.mk rfl ?_|refine xA ?_|refine Im.mk fun _=>?_|refine All.mk fun _=>?_|refine xT ?_|refine xI ?_|refine Ch.l ⟨rfl, rfl⟩ ?_|(apply SetAsk.r;focus repeat' constructor)|refine xN ?_|fail)
  rename_i b8
  refine CA.loop (fun k : Nat => ⟨[(0, ints sizes), (1, tbls l), (5, it a), (6, it b), (7, it i), (8, .val (.pointer (some ⟨b8, 0, none⟩))), (9, it k)], [blkR b8 94 (tblC t)]⟩) (fun k => k ≤ i) (fun k => i - k) 0 xE (Nat.zero_le _) ?_
  intro k hk
  by_cases hki : k < i
  ·obtain ⟨u, hu⟩ := get_of (l := l) (i := k) (by omega)
   repeat' (first|refine Sp.h ?_|refine Lk.r rfl ?_|refine Rf.mk rfl ?_|refine xA ?_|(refine Bd.mk ?_ ?_ <;> intro _)|refine OpK.r rfl ?_|refine xT ?_|refine xI ?_|refine xN ?_|refine xD ?_|refine xO ?_|fail)
   all_goals first
    | exact PA.lp (k + 1) xE ⟨hki, by omega⟩
    | exact ⟨_, _, .one (.same (.z)), _, rfl, rfl, fun h => by cases h⟩
  ·have hn := num_le sizes t.cols
   repeat' (first|refine Sp.h ?_|refine Lk.r rfl ?_|refine Rf.mk rfl ?_|refine xB ?_|refine xT ?_|(apply Cl.p (number_p _ _);focus repeat' constructor))
   refine xW (name_c t.name) ?_
   rintro _ _ ⟨nb, rfl, rfl⟩
   cases nb
   ·repeat' (first|refine Sp.h ?_|refine Lk.r rfl ?_|refine Rf.mk rfl ?_|refine xB ?_|refine xN ?_|fail)
    exact ⟨_, _, .one (.same (.z)), _, rfl, rfl, fun h => by cases h⟩
   ·by_cases hst : isStrict t.kind
    ·repeat' (first|refine Sp.h ?_|refine Lk.r rfl ?_|refine Rf.mk rfl ?_|refine xA ?_|refine xB ?_|(refine Bd.mk ?_ ?_ <;> intro _)|refine xT ?_|refine xN ?_|refine xO ?_|(apply Cl.p (strict9_p _);focus repeat' constructor))
     all_goals try exact ⟨_, _, .one (.same (.z)), _, rfl, rfl, fun h => by cases h⟩
     all_goals have hT : TabOK sizes t := ⟨num_ne (by assumption), by omega, by omega, by omega, by omega, by omega⟩
     all_goals exact PA.lp (i + 1, a + numF sizes t.cols, b) xE ⟨⟨hin, all_succ hti ht hT, by simp only;omega, by simp only;omega, by simp only;omega, by simp only;omega⟩, by simp only;omega⟩
    ·repeat' (first|refine Sp.h ?_|refine Lk.r rfl ?_|refine Rf.mk rfl ?_|refine xA ?_|refine xB ?_|(refine Bd.mk ?_ ?_ <;> intro _)|refine xT ?_|refine xN ?_|refine xO ?_|(apply Cl.p (strict9_p _);focus repeat' constructor))
     all_goals try exact ⟨_, _, .one (.same (.z)), _, rfl, rfl, fun h => by cases h⟩
     all_goals have hT : TabOK sizes t := ⟨num_ne (by assumption), by omega, by omega, by omega, by omega, by omega⟩
     all_goals exact PA.lp (i + 1, a, b + numF sizes t.cols) xE ⟨⟨hin, all_succ hti ht hT, by simp only;omega, by simp only;omega, by simp only;omega, by simp only;omega⟩, by simp only;omega⟩
 ·have : i = l.length := by omega
  subst this
  rw [List.take_length] at ht
  repeat' (first|refine Sp.h ?_|refine Lk.r rfl ?_|refine Rf.mk rfl ?_|refine xA ?_|refine xB ?_|(refine Bd.mk ?_ ?_ <;> intro _)|refine Im.mk fun _=>?_|refine xN ?_|fail)
  all_goals exact ⟨_, _, .one (.same (.z)), _, rfl, rfl, fun _ => ⟨by omega, by assumption, by omega, ht⟩⟩
end Go.Proofs.YtajenkpjcbaadaaGreat
namespace Go.Proofs.YtajenkpjcbaadaaGreat
open Go Go.CF
set_option maxRecDepth 20000
def rngC (p : Int × Int) : List AV := [it p.1, it p.2]
instance {a b : Int} : Inv rngC [it a, it b] (a, b) := ⟨rfl⟩
def RgOK (rs : List (Int × Int)) : Prop := ∀ p ∈ rs, -9999 ≤ p.1 ∧ p.1 ≤ p.2 ∧ p.2 ≤ 9999
theorem rg_app {rs : List (Int × Int)} (h : RgOK rs) {a b : Int} (h1 : -9999 ≤ a) (h2 : a ≤ b) (h3 : b ≤ 9999) : RgOK (rs ++ [(a, b)]) := by
 intro p hp
 rcases List.mem_append.1 hp with hp|hp
 ·exact h p hp
 ·rw [List.mem_singleton.1 hp];exact ⟨h1, h2, h3⟩
set_option maxHeartbeats 1000000 in
theorem ranges_c (sizes : List Int) (l : List TblS) (s : Bool) : CallA Tryz.prog 208 [ints sizes, tbls l, .val (.bool s)] [] fun r own => ∃ rs : List (Int × Int), r = .sl 2 rs rngC ∧ own = [] ∧ rs.length ≤ 2592 ∧ RgOK rs := by
 refine CallA.of pg ord208 Tryz.func208 rfl Tryz.ntmps208 Tryz.results208 rfl fun h0 G0 O0 => ?_
 repeat' (first|refine Sp.h ?_|refine Lk.r rfl ?_|refine Rf.mk rfl ?_|refine All.mk fun _=>?_|(apply Fk.r;focus repeat' first|infer_instance|constructor)|refine Rf.mk ⟨rfl, rfl, rfl⟩ ?_|fail)
 refine xW (valid9_c sizes l) ?_
 rintro _ _ ⟨b, rfl, rfl, hb⟩
 apply OA.retype (m := ([] : List (Int × Int))) (g := rngC)
 focus (repeat constructor)
 focus rfl
 cases b
 ·repeat' (first|refine Sp.h ?_|refine Lk.r rfl ?_|refine Rf.mk rfl ?_|refine xB ?_|refine xN ?_|fail)
  exact ⟨_, _, .one (.fz (by repeat constructor) (by simp) (.z)), [], rfl, rfl, by simp, fun p hp => by cases hp⟩
 obtain ⟨h1, h2, h3, h4⟩ := hb rfl
 repeat' (first|refine Sp.h ?_|refine Lk.r rfl ?_|refine Rf.mk rfl ?_|refine xA ?_|fail)
 rename_i v
 refine CA.loop (fun x : Nat × Value × List (Int × Int) => ⟨[(0, ints sizes), (1, tbls l), (2, .val (.bool s)), (7, .ow x.2.1), (8, it x.1)], [arrR x.2.1 92 2 x.2.2 rngC]⟩) (fun x => x.1 ≤ l.length ∧ x.2.2.length ≤ 216 * x.1 ∧ RgOK x.2.2) (fun x => l.length - x.1) (0, v, []) xE ⟨Nat.zero_le _, by simp, fun p hp => by cases hp⟩ ?_
 rintro ⟨i, v, rs⟩ ⟨hi, hr1, hr2⟩
 simp only at hi hr1 hr2
 simp only
 by_cases hin : i < l.length
 ·obtain ⟨t, ht⟩ := get_of hin
  obtain ⟨g1, g2, g3, g4, g5, g6⟩ := h4 t (List.mem_of_getElem? ht)
  have hn := num_le sizes t.cols
  repeat' (first|refine Sp.h ?_|refine Lk.r rfl ?_|refine Rf.mk rfl ?_|refine xA ?_|refine Im.mk fun _=>?_|fail)
  refine CA.loop (fun x : Nat × Value × List (Int × Int) => ⟨[(0, ints sizes), (1, tbls l), (2, .val (.bool s)), (7, .ow x.2.1), (8, it i), (9, it x.1)], [arrR x.2.1 92 2 x.2.2 rngC]⟩) (fun x => (x.1 : Int) ≤ numF sizes t.cols ∧ x.2.2.length ≤ 216 * i + x.1 ∧ RgOK x.2.2) (fun x => (numF sizes t.cols).toNat - x.1) (0, v, rs) xE ⟨by simp only;omega, by simp only;omega, hr2⟩ ?_
  rintro ⟨k, v, rs⟩ ⟨hk, hr1, hr2⟩
  simp only at hk hr1 hr2
  simp only
  by_cases hkn : (k : Int) < numF sizes t.cols
  ·repeat' (first|refine Sp.h ?_|refine Lk.r rfl ?_|refine Rf.mk rfl ?_|refine xA ?_|refine xB ?_|(refine Bd.mk ?_ ?_ <;> intro _)|refine xP ?_|refine All.mk fun _=>?_|refine xU ?_|refine xI ?_|refine Ce.r ?_|refine Ch.r ?_|(apply Fk.r;focus repeat' first|infer_instance|constructor)|refine Rf.mk ⟨rfl, rfl⟩ ?_|refine Rf.mk ⟨rfl, rfl, rfl⟩ ?_|(apply Mp.lit;(focus repeat (first|exact MpL.nil|(apply MpL.cons;(focus rfl))|(apply MpL.inv;(focus repeat constructor);(focus infer_instance)))))|refine xO ?_|(apply Cl.p (strict9_p _);focus repeat' constructor)|(apply Cl.p (number_p _ _);focus repeat' constructor))
   ·exact PA.lp (k + 1, _, rs ++ [(t.lo, t.hi)]) xE ⟨⟨by simp only;omega, by simp only [List.length_append, List.length_singleton];omega, rg_app hr2 g4 g5 g6⟩, by simp only;omega⟩
   ·exact PA.lp (i + 1, v, rs) xE ⟨⟨hin, by simp only;omega, hr2⟩, by simp only;omega⟩
  ·repeat' (first|refine Sp.h ?_|refine Lk.r rfl ?_|refine Rf.mk rfl ?_|refine xA ?_|refine xB ?_|(refine Bd.mk ?_ ?_ <;> intro _)|refine xI ?_|refine xO ?_|(apply Cl.p (strict9_p _);focus repeat' constructor)|(apply Cl.p (number_p _ _);focus repeat' constructor))
   all_goals exact PA.lp (i + 1, v, rs) xE ⟨⟨hin, by simp only;omega, hr2⟩, by simp only;omega⟩
 ·repeat' (first|refine Sp.h ?_|refine Lk.r rfl ?_|refine Rf.mk rfl ?_|refine xB ?_|refine Im.mk fun _=>?_|refine xN ?_|fail)
  exact ⟨_, _, .one (.fz (by repeat constructor) (by omega) (.z)), rs, rfl, rfl, by omega, hr2⟩
end Go.Proofs.YtajenkpjcbaadaaGreat
namespace Go.Proofs.YtajenkpjcbaadaaGreat
open Go Go.CF
set_option maxRecDepth 20000
theorem distinct_c (l : List ByteArray) : CallB Tryz.prog 137 [.sl 1 l strC] := by
 refine CallA.of pg ord137 Tryz.func137 rfl Tryz.ntmps137 Tryz.results137 rfl fun h0 G0 O0 => ?_
 repeat' (first|refine Sp.h ?_|refine Lk.r rfl ?_|refine Rf.mk rfl ?_|fail)
 refine CA.loop (fun i : Nat => ⟨[(0, .sl 1 l strC), (3, it i)], []⟩) (fun i => i ≤ l.length) (fun i => l.length - i) 0 xE (Nat.zero_le _) ?_
 intro i hi
 by_cases hin : i < l.length
 ·obtain ⟨s, hs⟩ := get_of hin
  repeat' (first|refine Sp.h ?_|refine Lk.r rfl ?_|refine Rf.mk rfl ?_|refine xA ?_|refine OpK.r rfl ?_|refine Im.mk fun _=>?_|refine xI ?_|refine xD ?_|fail)
  refine xW (name_c s) ?_
  rintro _ _ ⟨b, rfl, rfl⟩
  cases b
  ·repeat' (first|refine Sp.h ?_|refine Lk.r rfl ?_|refine Rf.mk rfl ?_|refine xB ?_|refine OpK.r rfl ?_|refine xN ?_|fail)
   exact ⟨_, _, .one (.same (.z)), _, rfl, rfl⟩
  ·repeat' (first|refine Sp.h ?_|refine Lk.r rfl ?_|refine Rf.mk rfl ?_|refine xA ?_|(refine Bd.mk ?_ ?_ <;> intro _)|refine OpK.r rfl ?_|refine xI ?_|refine xN ?_|(apply Jx.r;(focus exact rfl);(focus first|omega|(simp;done)|(simp;omega)))|refine xO ?_|(apply Cl.p (has_p _ _);focus repeat' constructor))
   all_goals first
    | exact ⟨_, _, .one (.same (.z)), _, rfl, rfl⟩
    | exact PA.lp (i + 1) xE ⟨hin, by omega⟩
 ·repeat' (first|refine Sp.h ?_|refine Lk.r rfl ?_|refine Rf.mk rfl ?_|refine xB ?_|refine Im.mk fun _=>?_|refine xN ?_|fail)
  exact ⟨_, _, .one (.same (.z)), _, rfl, rfl⟩
structure RowS where
 terms : List (Int × Int)
 bound : Int
abbrev terms (l : List (Int × Int)) : AV := .sl 2 l rngC
def rowC (r : RowS) : List AV := [terms r.terms, it r.bound]
def TermOK (n : Int) (p : Int × Int) : Prop := 0 ≤ p.1 ∧ p.1 < n ∧ -1000 ≤ p.2 ∧ p.2 ≤ 1000
def RowOK (n : Int) (r : RowS) : Prop := (∀ p ∈ r.terms, TermOK n p) ∧ -1000000000 ≤ r.bound ∧ r.bound ≤ 1000000000
theorem between13_p (x m : Int) (hm : 0 ≤ m ∧ m ≤ 9223372036854775807) : CallP Tryz.prog 178 [it x, it m] (.val (.bool (decide (-m ≤ x ∧ x ≤ m)))) := by
 refine CallA.of pg ord178 Tryz.func178 rfl Tryz.ntmps178 Tryz.results178 rfl fun h0 G0 O0 => ?_
 repeat' (first|refine Sp.h ?_|refine Lk.r rfl ?_|refine Rf.mk rfl ?_|refine xA ?_|refine xB ?_|(refine Bd.mk ?_ ?_ <;> intro _)|refine xP ?_|refine xN ?_|fail)
 all_goals refine Fin.p rfl (vb ?_)
 all_goals first
  | exact decide_eq_decide.2 (by omega)
  | exact (decide_eq_false (by omega)).symm
set_option maxHeartbeats 1000000 in
theorem row_c (r : RowS) (n : Int) : CallF Tryz.prog 176 [.agg (rowC r), it n] (RowOK n r) := by
 have hb1 := between13_p r.bound 1000000000 (by omega)
 refine CallA.of pg ord176 Tryz.func176 rfl Tryz.ntmps176 Tryz.results176 rfl fun h0 G0 O0 => ?_
 repeat' (first|refine Sp.h ?_|refine Lk.r rfl ?_|refine Rf.mk rfl ?_|refine All.mk fun _=>?_|fail)
 rename_i b2
 refine CA.loop (fun i : Nat => ⟨[(1, it n), (2, .val (.pointer (some ⟨b2, 0, none⟩))), (5, it i)], [blkR b2 146 (rowC r)]⟩) (fun i => i ≤ r.terms.length ∧ ∀ p ∈ r.terms.take i, TermOK n p) (fun i => r.terms.length - i) 0 xE ⟨Nat.zero_le _, by simp⟩ ?_
 rintro i ⟨hi, ha⟩
 by_cases hin : i < r.terms.length
 ·obtain ⟨p, hp⟩ := get_of hin
  have hbp := between13_p p.2 1000 (by omega)
  rcases Nat.eq_zero_or_pos i with h0|h0
  ·subst h0
   repeat' (first|refine Sp.h ?_|refine Lk.r rfl ?_|refine Rf.mk rfl ?_|refine xA ?_|refine xB ?_|(refine Bd.mk ?_ ?_ <;> intro _)|refine OpK.r rfl ?_|refine Im.mk fun _=>?_|refine All.mk fun _=>?_|refine xT ?_|refine xI ?_|refine Ch.l ⟨rfl, rfl⟩ ?_|(apply SetAsk.r;focus repeat' constructor)|refine xN ?_|refine xD ?_|refine xO ?_|(apply Cl.p (hbp);focus repeat' constructor))
   all_goals try exact ⟨_, _, .one (.same (.z)), _, rfl, rfl, fun h => by cases h⟩
   exact PA.lp 1 xE ⟨⟨hin, all_succ hp ha ⟨by omega, by omega, by omega, by omega⟩⟩, by omega⟩
  ·obtain ⟨k, rfl⟩ : ∃ k, i = k + 1 := ⟨i - 1, by omega⟩
   obtain ⟨q, hq⟩ := get_of (l := r.terms) (i := k) (by omega)
   repeat' (first|refine Sp.h ?_|refine Lk.r rfl ?_|refine Rf.mk rfl ?_|refine xA ?_|refine xB ?_|(refine Bd.mk ?_ ?_ <;> intro _)|refine OpK.r rfl ?_|refine Im.mk fun _=>?_|refine All.mk fun _=>?_|refine xT ?_|refine xI ?_|(apply Ix.r;(focus assumption);(focus omega))|refine Ch.l ⟨rfl, rfl⟩ ?_|(apply SetAsk.r;focus repeat' constructor)|refine xN ?_|refine xD ?_|refine xO ?_|(apply Cl.p (hbp);focus repeat' constructor))
   all_goals try exact ⟨_, _, .one (.same (.z)), _, rfl, rfl, fun h => by cases h⟩
   exact PA.lp (k + 1 + 1) xE ⟨⟨hin, all_succ hp ha ⟨by omega, by omega, by omega, by omega⟩⟩, by omega⟩
 ·have : i = r.terms.length := by omega
  subst this
  rw [List.take_length] at ha
  repeat' (first|refine Sp.h ?_|refine Lk.r rfl ?_|refine Rf.mk rfl ?_|refine xB ?_|refine Im.mk fun _=>?_|refine xT ?_|refine xN ?_|(apply Cl.p (hb1);focus repeat' constructor))
  all_goals exact ⟨_, _, .one (.same (.z)), _, rfl, rfl, fun h => ⟨ha, of_decide_eq_true h⟩⟩
end Go.Proofs.YtajenkpjcbaadaaGreat
namespace Go.Proofs.YtajenkpjcbaadaaGreat
open Go Go.CF
set_option maxRecDepth 20000
structure CnsS where
 kind : Int
 family : Int
 row : RowS
 first : Int
 size : Int
def cnsC (c : CnsS) : List AV := [it c.kind, it c.family, terms c.row.terms, it c.row.bound, it c.first, it c.size]
structure OpS where
 name : ByteArray
 ordered : Bool
 sorts : List Int
def opC (o : OpS) : List AV := [sv o.name, .val (.bool o.ordered), ints o.sorts]
def updC : Int × Int × Int → List AV
 | (a, b, c) => [it a, it b, it c]
structure EffS where
 delta : List (Int × Int)
 hold : List RowS
 updates : List (Int × Int × Int)
def effC (e : EffS) : List AV := [terms e.delta, .sl 2 e.hold rowC, .sl 3 e.updates updC]
structure ActS where
 op : Int
 args : List Int
 eff : EffS
def actC (a : ActS) : List AV := [it a.op, ints a.args, terms a.eff.delta, .sl 2 a.eff.hold rowC, .sl 3 a.eff.updates updC]
structure ModS where
 sorts : List Int
 tables : List TblS
 families : List ByteArray
 cons : List CnsS
 ops : List OpS
 acts : List ActS
 hides : List (Int × Int × Int)
def modC (m : ModS) : List AV := [ints m.sorts, tbls m.tables, .sl 1 m.families strC, .sl 6 m.cons cnsC, .sl 3 m.ops opC, .sl 5 m.acts actC, .sl 3 m.hides updC]
abbrev mdl (m : ModS) : AV := .agg (modC m)
theorem sameTerms_c (a b : List (Int × Int)) : CallB Tryz.prog 209 [terms a, terms b] := by
 refine CallA.of pg ord209 Tryz.func209 rfl Tryz.ntmps209 Tryz.results209 rfl fun h0 G0 O0 => ?_
 by_cases hl : a.length = b.length
 ·repeat' (first|refine Sp.h ?_|refine Lk.r rfl ?_|refine Rf.mk rfl ?_|refine xA ?_|refine Im.mk fun _=>?_|fail)
  refine CA.loop (fun i : Nat => ⟨[(0, terms a), (1, terms b), (5, it i)], []⟩) (fun i => i ≤ a.length) (fun i => a.length - i) 0 xE (Nat.zero_le _) ?_
  intro i hi
  by_cases hin : i < a.length
  ·obtain ⟨p, hp⟩ := get_of hin
   obtain ⟨q, hq⟩ := get_of (l := b) (i := i) (by omega)
   repeat' (first|refine Sp.h ?_|refine Lk.r rfl ?_|refine Rf.mk rfl ?_|refine xA ?_|(refine Bd.mk ?_ ?_ <;> intro _)|refine OpK.r rfl ?_|refine Im.mk fun _=>?_|refine xI ?_|refine Ch.l ⟨rfl, rfl⟩ ?_|refine xN ?_|refine xK ?_|(apply Kf.mk;(focus kernel_rfl))|refine xD ?_|refine xO ?_|fail)
   all_goals first
    | exact ⟨_, _, .one (.same (.z)), _, rfl, rfl⟩
    | exact PA.lp (i + 1) xE ⟨hin, by omega⟩
  ·repeat' (first|refine Sp.h ?_|refine Lk.r rfl ?_|refine Rf.mk rfl ?_|refine xB ?_|refine Im.mk fun _=>?_|refine xN ?_|fail)
   exact ⟨_, _, .one (.same (.z)), _, rfl, rfl⟩
 ·repeat' (first|refine Sp.h ?_|refine Lk.r rfl ?_|refine Rf.mk rfl ?_|refine xB ?_|refine Im.mk fun _=>?_|refine xN ?_|fail)
  all_goals exact ⟨_, _, .one (.same (.z)), _, rfl, rfl⟩
theorem sameRow_c (a b : RowS) : CallB Tryz.prog 175 [.agg (rowC a), .agg (rowC b)] := by
 refine CallA.of pg ord175 Tryz.func175 rfl Tryz.ntmps175 Tryz.results175 rfl fun h0 G0 O0 => ?_
 repeat' (first|refine Sp.h ?_|refine Lk.r rfl ?_|refine Rf.mk rfl ?_|refine xA ?_|refine xB ?_|(refine Bd.mk ?_ ?_ <;> intro _)|refine All.mk fun _=>?_|refine xT ?_|refine xN ?_|fail)
 ·refine xW (sameTerms_c _ _) ?_
  rintro _ _ ⟨x, rfl, rfl⟩
  repeat' (first|refine Sp.h ?_|refine Lk.r rfl ?_|refine xA ?_|refine xN ?_|fail)
  exact ⟨_, _, .one (.same (.z)), _, rfl, rfl⟩
 ·exact ⟨_, _, .one (.same (.z)), _, rfl, rfl⟩
theorem graph_c (m : ModS) (c : CnsS) (hm : LayOK m.sorts m.tables) : CallB Tryz.prog 177 [mdl m, .agg (cnsC c)] := by
 refine CallA.of pg ord177 Tryz.func177 rfl Tryz.ntmps177 Tryz.results177 rfl fun h0 G0 O0 => ?_
 repeat' (first|refine Sp.h ?_|refine Lk.r rfl ?_|refine Rf.mk rfl ?_|refine xA ?_|refine xB ?_|(refine Bd.mk ?_ ?_ <;> intro _)|refine Im.mk fun _=>?_|refine All.mk fun _=>?_|refine xT ?_|refine xN ?_|fail)
 all_goals try exact ⟨_, _, .one (.same (.z)), _, rfl, rfl⟩
 rename_i b2 b3 _ _ _
 refine CA.loop (fun i : Nat => ⟨[(2, .val (.pointer (some ⟨b2, 0, none⟩))), (3, .val (.pointer (some ⟨b3, 0, none⟩))), (5, it i)], [blkR b3 148 (cnsC c), blkR b2 30 (modC m)]⟩) (fun i => i ≤ m.tables.length) (fun i => m.tables.length - i) 0 xE (Nat.zero_le _) ?_
 intro i hi
 by_cases hin : i < m.tables.length
 ·obtain ⟨t, ht⟩ := get_of hin
  obtain ⟨⟨g1, g2, g3⟩, -⟩ := hm.2.2.2 t (List.mem_of_getElem? ht)
  by_cases hl : t.cols.length = 2
  ·obtain ⟨x, hx⟩ := get_of (l := t.cols) (i := 0) (by omega)
   obtain ⟨y, hy⟩ := get_of (l := t.cols) (i := 1) (by omega)
   obtain ⟨hx1, hx2⟩ := g3 x (List.mem_of_getElem? hx)
   obtain ⟨z, hz⟩ := get_of (l := m.sorts) (i := x.toNat) (by omega)
   repeat' (first|refine Sp.h ?_|refine Lk.r rfl ?_|refine Rf.mk rfl ?_|refine xA ?_|refine xB ?_|(refine Bd.mk ?_ ?_ <;> intro _)|refine OpK.r rfl ?_|refine Im.mk fun _=>?_|refine All.mk fun _=>?_|refine xT ?_|refine xI ?_|(apply Ix.r;(focus assumption);(focus omega))|refine Ch.l ⟨rfl, rfl⟩ ?_|(apply SetAsk.r;focus repeat' constructor)|refine xN ?_|refine xD ?_|refine xO ?_|fail)
   all_goals first
    | exact ⟨_, _, .one (.same (.z)), _, rfl, rfl⟩
    | exact PA.lp (i + 1) xE ⟨hin, by omega⟩
  ·repeat' (first|refine Sp.h ?_|refine Lk.r rfl ?_|refine Rf.mk rfl ?_|refine xA ?_|refine xB ?_|(refine Bd.mk ?_ ?_ <;> intro _)|refine OpK.r rfl ?_|refine Im.mk fun _=>?_|refine All.mk fun _=>?_|refine xT ?_|refine xI ?_|refine Ch.l ⟨rfl, rfl⟩ ?_|(apply SetAsk.r;focus repeat' constructor)|refine xN ?_|refine xD ?_|refine xO ?_|fail)
   all_goals first
    | exact ⟨_, _, .one (.same (.z)), _, rfl, rfl⟩
    | exact PA.lp (i + 1) xE ⟨hin, by omega⟩
 ·repeat' (first|refine Sp.h ?_|refine Lk.r rfl ?_|refine Rf.mk rfl ?_|refine xB ?_|refine Im.mk fun _=>?_|refine xT ?_|refine xN ?_|fail)
  exact ⟨_, _, .one (.same (.z)), _, rfl, rfl⟩
end Go.Proofs.YtajenkpjcbaadaaGreat
namespace Go.Proofs.YtajenkpjcbaadaaGreat
open Go Go.CF
set_option maxRecDepth 20000
theorem strict13_c (m : ModS) : CallA Tryz.prog 174 [mdl m] [] fun r own => ∃ rs : List (Int × Int), r = .sl 2 rs rngC ∧ own = [] ∧ rs.length ≤ 2592 ∧ RgOK rs := by
 refine CallA.of pg ord174 Tryz.func174 rfl Tryz.ntmps174 Tryz.results174 rfl fun h0 G0 O0 => ?_
 repeat' (first|refine Sp.h ?_|refine Lk.r rfl ?_|refine Rf.mk rfl ?_|refine All.mk fun _=>?_|refine xT ?_|fail)
 refine xW (ranges_c _ _ _) ?_
 rintro _ _ ⟨rs, rfl, rfl, h1, h2⟩
 repeat' (first|refine Sp.h ?_|refine Lk.r rfl ?_|refine xN ?_|fail)
 exact ⟨_, _, .one (.same (.z)), rs, rfl, rfl, h1, h2⟩
set_option maxHeartbeats 2000000 in
theorem constraints_c (m : ModS) (hm : LayOK m.sorts m.tables) : CallB Tryz.prog 138 [mdl m] := by
 refine CallA.of pg ord138 Tryz.func138 rfl Tryz.ntmps138 Tryz.results138 rfl fun h0 G0 O0 => ?_
 repeat' (first|refine Sp.h ?_|refine Lk.r rfl ?_|refine Rf.mk rfl ?_|refine All.mk fun _=>?_|refine xT ?_|refine Ch.l ⟨rfl, rfl⟩ ?_|fail)
 refine xW (strict13_c m) ?_
 rintro _ _ ⟨rs, rfl, rfl, hr1, hr2⟩
 repeat' (first|refine Sp.h ?_|refine Lk.r rfl ?_|refine Rf.mk rfl ?_|refine xA ?_|refine xB ?_|(refine Bd.mk ?_ ?_ <;> intro _)|refine xP ?_|refine Im.mk fun _=>?_|refine xT ?_|refine xN ?_|fail)
 all_goals try exact ⟨_, _, .one (.same (.z)), _, rfl, rfl⟩
 rename_i b1 _ _ _ _ _
 refine CA.loop (fun i : Nat => ⟨[(1, .val (.pointer (some ⟨b1, 0, none⟩))), (3, .sl 2 rs rngC), (4, it i)], [blkR b1 30 (modC m)]⟩) (fun i => i ≤ rs.length) (fun i => rs.length - i) 0 xE (Nat.zero_le _) ?_
 intro i hi
 by_cases hin : i < rs.length
 ·obtain ⟨p, hp⟩ := get_of hin
  obtain ⟨h1, h2, h3⟩ := hr2 p (List.mem_of_getElem? hp)
  obtain ⟨c, hc⟩ := get_of (l := m.cons) (i := 2 * i) (by omega)
  obtain ⟨c2, hc2⟩ := get_of (l := m.cons) (i := 2 * i + 1) (by omega)
  have hc2' : m.cons[2 * i + 1]? = some c2 := hc2
  have hcc : m.cons[2 * i]? = some c := hc
  clear hc2
  repeat' (first|refine Sp.h ?_|refine Lk.r rfl ?_|refine Rf.mk rfl ?_|refine xA ?_|refine OpK.r rfl ?_|refine xP ?_|refine Im.mk fun _=>?_|refine All.mk fun _=>?_|refine xT ?_|refine xI ?_|refine Ch.l ⟨rfl, rfl⟩ ?_|refine Ch.r ?_|(apply SetAsk.r;focus repeat' constructor)|(apply Fk.r;focus repeat' first|infer_instance|constructor)|refine xN ?_|refine Rf.mk ⟨rfl, rfl, rfl⟩ ?_|refine xD ?_|fail)
  (apply Cl.fz;(focus repeat' (first|exact FZ.nil|(apply FZ.fz;(focus repeat constructor);(focus first|omega|decide|exact Nat.le_of_ble_eq_true rfl|(simp <;> omega)))|apply FZ.agg|apply FZ.same)))
  apply Cl.use (sameRow_c c.row ⟨[((i : Int), -1)], -p.1⟩)
  focus exact .keep (.agg (.mp rfl (.keep .nil)) .nil)
  focus exact .nil
  focus rfl
  rintro _ _ ⟨x, rfl, rfl⟩
  cases x
  ·repeat' (first|refine Sp.h ?_|refine Lk.r rfl ?_|refine Rf.mk rfl ?_|refine xB ?_|refine OpK.r rfl ?_|refine xN ?_|fail)
   exact ⟨_, _, .one (.same (.z)), _, rfl, rfl⟩
  ·clear hcc hc
   repeat' (first|refine Sp.h ?_|refine Lk.r rfl ?_|refine Rf.mk rfl ?_|refine xA ?_|refine OpK.r rfl ?_|refine xP ?_|refine xT ?_|refine xI ?_|refine Ch.l ⟨rfl, rfl⟩ ?_|refine Ch.r ?_|refine xO ?_|fail)
   (apply Cl.fz;(focus repeat' (first|exact FZ.nil|(apply FZ.fz;(focus repeat constructor);(focus first|omega|decide|exact Nat.le_of_ble_eq_true rfl|(simp <;> omega)))|apply FZ.agg|apply FZ.same)))
   apply Cl.use (sameRow_c c2.row ⟨[((i : Int), 1)], p.2⟩)
   focus exact .keep (.agg (.mp rfl (.keep .nil)) .nil)
   focus exact .nil
   focus rfl
   rintro _ _ ⟨x, rfl, rfl⟩
   cases x
   ·repeat' (first|refine Sp.h ?_|refine Lk.r rfl ?_|refine Rf.mk rfl ?_|refine xA ?_|refine xB ?_|refine OpK.r rfl ?_|refine xN ?_|fail)
    exact ⟨_, _, .one (.same (.z)), _, rfl, rfl⟩
   ·repeat' (first|refine Sp.h ?_|refine Lk.r rfl ?_|refine Rf.mk rfl ?_|refine xA ?_|refine OpK.r rfl ?_|refine xO ?_|fail)
    exact PA.lp (i + 1) xE ⟨hin, by omega⟩
 ·repeat' (first|refine Sp.h ?_|refine Lk.r rfl ?_|refine Rf.mk rfl ?_|refine xB ?_|refine Im.mk fun _=>?_|fail)
  refine CA.loop (fun i : Nat => ⟨[(1, .val (.pointer (some ⟨b1, 0, none⟩))), (3, .sl 2 rs rngC), (7, it i)], [blkR b1 30 (modC m)]⟩) (fun i => i ≤ m.cons.length) (fun i => m.cons.length - i) 0 xE (Nat.zero_le _) ?_
  intro i hi
  by_cases hin : i < m.cons.length
  ·obtain ⟨c, hc⟩ := get_of hin
   have hg := graph_c m c hm
   have hrow := row_c c.row (rs.length : Int)
   repeat' (first|refine Sp.h ?_|refine Lk.r rfl ?_|refine Rf.mk rfl ?_|refine xA ?_|refine xB ?_|(refine Bd.mk ?_ ?_ <;> intro _)|refine xP ?_|refine Im.mk fun _=>?_|refine All.mk fun _=>?_|refine xT ?_|refine xI ?_|refine Ch.l ⟨rfl, rfl⟩ ?_|refine Ch.r ?_|(apply SetAsk.r;focus repeat' constructor)|refine xN ?_|fail)
   all_goals try exact ⟨_, _, .one (.same (.z)), _, rfl, rfl⟩
   any_goals ((apply Cl.use (hrow);(focus repeat' constructor);(focus repeat' constructor);focus rfl);(rintro _ _ ⟨x, rfl, rfl, -⟩);cases x)
   all_goals repeat' (first|refine Sp.h ?_|refine Lk.r rfl ?_|refine Rf.mk rfl ?_|refine xA ?_|refine xB ?_|(refine Bd.mk ?_ ?_ <;> intro _)|refine xP ?_|refine Im.mk fun _=>?_|refine xT ?_|refine xN ?_|refine xO ?_|fail)
   all_goals try exact ⟨_, _, .one (.same (.z)), _, rfl, rfl⟩
   all_goals try exact PA.lp (i + 1) xE ⟨hin, by omega⟩
   any_goals ((apply Cl.use (hg);(focus repeat' constructor);(focus repeat' constructor);focus rfl);(rintro _ _ ⟨y, rfl, rfl⟩);cases y)
   all_goals repeat' (first|refine Sp.h ?_|refine Lk.r rfl ?_|refine Rf.mk rfl ?_|refine xA ?_|refine xB ?_|refine xN ?_|refine xO ?_|fail)
   all_goals first
    | exact ⟨_, _, .one (.same (.z)), _, rfl, rfl⟩
    | exact PA.lp (i + 1) xE ⟨hin, by omega⟩
  ·repeat' (first|refine Sp.h ?_|refine Lk.r rfl ?_|refine Rf.mk rfl ?_|refine xB ?_|refine Im.mk fun _=>?_|refine xT ?_|refine xN ?_|fail)
   exact ⟨_, _, .one (.same (.z)), _, rfl, rfl⟩
end Go.Proofs.YtajenkpjcbaadaaGreat
namespace Go.Proofs.YtajenkpjcbaadaaGreat
open Go Go.CF
set_option maxRecDepth 20000
theorem less_c (a b : List Int) : CallB Tryz.prog 179 [ints a, ints b] := by
 refine CallA.of pg ord179 Tryz.func179 rfl Tryz.ntmps179 Tryz.results179 rfl fun h0 G0 O0 => ?_
 repeat' (first|refine Sp.h ?_|refine Lk.r rfl ?_|refine Rf.mk rfl ?_|fail)
 refine CA.loop (fun i : Nat => ⟨[(0, ints a), (1, ints b), (5, it i)], []⟩) (fun i => i ≤ a.length) (fun i => a.length - i) 0 xE (Nat.zero_le _) ?_
 intro i hi
 by_cases hin : i < a.length ∧ i < b.length
 ·obtain ⟨x, hx⟩ := get_of hin.1
  obtain ⟨y, hy⟩ := get_of hin.2
  repeat' (first|refine Sp.h ?_|refine Lk.r rfl ?_|refine Rf.mk rfl ?_|refine xA ?_|(refine Bd.mk ?_ ?_ <;> intro _)|refine OpK.r rfl ?_|refine Im.mk fun _=>?_|refine xI ?_|refine xN ?_|refine xD ?_|refine xO ?_|fail)
  all_goals first
   | exact ⟨_, _, .one (.same (.z)), _, rfl, rfl⟩
   | exact PA.lp (i + 1) xE ⟨hin.1, by omega⟩
 ·repeat' (first|refine Sp.h ?_|refine Lk.r rfl ?_|refine Rf.mk rfl ?_|refine xA ?_|refine xB ?_|(refine Bd.mk ?_ ?_ <;> intro _)|refine Im.mk fun _=>?_|refine xN ?_|fail)
  all_goals exact ⟨_, _, .one (.same (.z)), _, rfl, rfl⟩
theorem leads_c (m : ModS) (n : Nat) (hn : n ≤ 1000) : ∀ a b : Int, CallB Tryz.prog 181 [mdl m, it a, it b, it n] := by
 induction n with
 | zero =>
  intro a b
  refine CallA.of pg ord181 Tryz.func181 rfl Tryz.ntmps181 Tryz.results181 rfl fun h0 G0 O0 => ?_
  repeat' (first|refine Sp.h ?_|refine Lk.r rfl ?_|refine Rf.mk rfl ?_|(refine Bd.mk ?_ ?_ <;> intro _)|refine All.mk fun _=>?_|refine xN ?_|fail)
  ·exact ⟨_, _, .one (.same (.z)), _, rfl, rfl⟩
  rename_i b4 _
  refine CA.loop (fun i : Nat => ⟨[(1, it a), (2, it b), (3, it (0 : Nat)), (4, .val (.pointer (some ⟨b4, 0, none⟩))), (9, it i)], [blkR b4 30 (modC m)]⟩) (fun i => i ≤ m.hides.length) (fun i => m.hides.length - i) 0 xE (Nat.zero_le _) ?_
  intro i hi
  by_cases hin : i < m.hides.length
  ·repeat' (first|refine Sp.h ?_|refine Lk.r rfl ?_|refine Rf.mk rfl ?_|refine xA ?_|refine xB ?_|refine Im.mk fun _=>?_|refine xT ?_|refine xN ?_|fail)
   exact ⟨_, _, .one (.same (.z)), _, rfl, rfl⟩
  ·repeat' (first|refine Sp.h ?_|refine Lk.r rfl ?_|refine Rf.mk rfl ?_|refine xB ?_|refine Im.mk fun _=>?_|refine xT ?_|refine xN ?_|fail)
   exact ⟨_, _, .one (.same (.z)), _, rfl, rfl⟩
 | succ n ih =>
  intro a b
  have ih := ih (by omega)
  refine CallA.of pg ord181 Tryz.func181 rfl Tryz.ntmps181 Tryz.results181 rfl fun h0 G0 O0 => ?_
  repeat' (first|refine Sp.h ?_|refine Lk.r rfl ?_|refine Rf.mk rfl ?_|(refine Bd.mk ?_ ?_ <;> intro _)|refine All.mk fun _=>?_|refine xN ?_|fail)
  ·exact ⟨_, _, .one (.same (.z)), _, rfl, rfl⟩
  rename_i b4 _
  refine CA.loop (fun i : Nat => ⟨[(1, it a), (2, it b), (3, it (n + 1 : Nat)), (4, .val (.pointer (some ⟨b4, 0, none⟩))), (9, it i)], [blkR b4 30 (modC m)]⟩) (fun i => i ≤ m.hides.length) (fun i => m.hides.length - i) 0 xE (Nat.zero_le _) ?_
  intro i hi
  by_cases hin : i < m.hides.length
  ·obtain ⟨⟨h1, h2, h3⟩, hh⟩ := get_of hin
   have ihh := ih h3 b
   rw [show (n : Int) = ((n + 1 : Nat) : Int) - 1 by omega] at ihh
   repeat' (first|refine Sp.h ?_|refine Lk.r rfl ?_|refine Rf.mk rfl ?_|refine xA ?_|refine xB ?_|(refine Bd.mk ?_ ?_ <;> intro _)|refine OpK.r rfl ?_|refine Im.mk fun _=>?_|refine xT ?_|refine xI ?_|refine Ch.l ⟨rfl, rfl⟩ ?_|refine xD ?_|refine xO ?_|fail)
   ·refine xW (ihh) ?_
    rintro _ _ ⟨x, rfl, rfl⟩
    cases x
    ·repeat' (first|refine Sp.h ?_|refine Lk.r rfl ?_|refine Rf.mk rfl ?_|refine xA ?_|refine OpK.r rfl ?_|refine xO ?_|fail)
     exact PA.lp (i + 1) xE ⟨hin, by omega⟩
    ·repeat' (first|refine Sp.h ?_|refine Lk.r rfl ?_|refine Rf.mk rfl ?_|refine xA ?_|refine OpK.r rfl ?_|refine xN ?_|fail)
     exact ⟨_, _, .one (.same (.z)), _, rfl, rfl⟩
   ·exact PA.lp (i + 1) xE ⟨hin, by omega⟩
  ·repeat' (first|refine Sp.h ?_|refine Lk.r rfl ?_|refine Rf.mk rfl ?_|refine xB ?_|refine Im.mk fun _=>?_|refine xT ?_|refine xN ?_|fail)
   exact ⟨_, _, .one (.same (.z)), _, rfl, rfl⟩
end Go.Proofs.YtajenkpjcbaadaaGreat
namespace Go.Proofs.YtajenkpjcbaadaaGreat
open Go Go.CF
set_option maxRecDepth 20000
set_option maxHeartbeats 2000000 in
theorem hidden_c (m : ModS) (hm : LayOK m.sorts m.tables) : CallB Tryz.prog 140 [mdl m] := by
 have hml := hm.2.2.1
 refine CallA.of pg ord140 Tryz.func140 rfl Tryz.ntmps140 Tryz.results140 rfl fun h0 G0 O0 => ?_
 repeat' (first|refine Sp.h ?_|refine Lk.r rfl ?_|refine Rf.mk rfl ?_|(refine Bd.mk ?_ ?_ <;> intro _)|refine Im.mk fun _=>?_|refine All.mk fun _=>?_|refine xT ?_|refine xN ?_|fail)
 all_goals try exact ⟨_, _, .one (.same (.z)), _, rfl, rfl⟩
 rename_i b1 _ _
 refine CA.loop (fun i : Nat => ⟨[(1, .val (.pointer (some ⟨b1, 0, none⟩))), (3, it i)], [blkR b1 30 (modC m)]⟩) (fun i => i ≤ m.hides.length) (fun i => m.hides.length - i) 0 xE (Nat.zero_le _) ?_
 intro i hi
 by_cases hin : i < m.hides.length
 ·obtain ⟨⟨ht, hcol, hto⟩, hh⟩ := get_of hin
  by_cases hb : 0 ≤ ht ∧ ht < m.tables.length ∧ 0 ≤ hto ∧ hto < m.tables.length
  ·obtain ⟨j1, rfl⟩ := Int.eq_ofNat_of_zero_le hb.1
   obtain ⟨j2, rfl⟩ := Int.eq_ofNat_of_zero_le hb.2.2.1
   obtain ⟨-, hb1, -, hb2⟩ := hb
   obtain ⟨t, htt⟩ := get_of (l := m.tables) (i := j1) (by omega)
   obtain ⟨u, huu⟩ := get_of (l := m.tables) (i := j2) (by omega)
   by_cases hc : 0 ≤ hcol ∧ hcol < t.cols.length ∧ u.cols.length = 1
   ·obtain ⟨j3, rfl⟩ := Int.eq_ofNat_of_zero_le hc.1
    obtain ⟨-, hc1, hc2⟩ := hc
    obtain ⟨x, hx⟩ := get_of (l := t.cols) (i := j3) (by omega)
    obtain ⟨y, hy⟩ := get_of (l := u.cols) (i := 0) (by omega)
    repeat' (first|refine Sp.h ?_|refine Lk.r rfl ?_|refine Rf.mk rfl ?_|refine xA ?_|refine xB ?_|(refine Bd.mk ?_ ?_ <;> intro _)|refine OpK.r rfl ?_|refine xP ?_|refine Im.mk fun _=>?_|refine All.mk fun _=>?_|refine xT ?_|refine xI ?_|refine Ch.l ⟨rfl, rfl⟩ ?_|(apply SetAsk.r;focus repeat' constructor)|refine xN ?_|refine xD ?_|exact trivial|(apply CA.drawF;(focus rfl);(focus kernel_rfl);(focus kernel_rfl);(focus repeat' constructor);(focus rfl);intro _n0 _hlt)|(apply NfK.lt;(focus first|assumption|omega|(apply _hlt;repeat constructor)))|apply RA'.both|refine xO ?_|fail)
    all_goals first
     | exact ⟨_, _, .one (.same (.z)), _, rfl, rfl⟩
     | exact PA.lp (i + 1) xE ⟨hin, by omega⟩
   ·repeat' (first|refine Sp.h ?_|refine Lk.r rfl ?_|refine Rf.mk rfl ?_|refine xA ?_|refine xB ?_|(refine Bd.mk ?_ ?_ <;> intro _)|refine OpK.r rfl ?_|refine xP ?_|refine Im.mk fun _=>?_|refine All.mk fun _=>?_|refine xT ?_|refine xI ?_|refine Ch.l ⟨rfl, rfl⟩ ?_|(apply SetAsk.r;focus repeat' constructor)|refine xN ?_|refine xD ?_|exact trivial|(apply CA.drawF;(focus rfl);(focus kernel_rfl);(focus kernel_rfl);(focus repeat' constructor);(focus rfl);intro _n0 _hlt)|(apply NfK.lt;(focus first|assumption|omega|(apply _hlt;repeat constructor)))|apply RA'.both|fail)
    all_goals first
     | exact ⟨_, _, .one (.same (.z)), _, rfl, rfl⟩
     | exact (hc ⟨by omega, by omega, by omega⟩).elim
  ·repeat' (first|refine Sp.h ?_|refine Lk.r rfl ?_|refine Rf.mk rfl ?_|refine xA ?_|refine xB ?_|(refine Bd.mk ?_ ?_ <;> intro _)|refine Im.mk fun _=>?_|refine All.mk fun _=>?_|refine xT ?_|refine xI ?_|refine Ch.l ⟨rfl, rfl⟩ ?_|(apply SetAsk.r;focus repeat' constructor)|refine xN ?_|fail)
   all_goals first
    | exact ⟨_, _, .one (.same (.z)), _, rfl, rfl⟩
    | exact (hb ⟨by omega, by omega, by omega, by omega⟩).elim
 ·repeat' (first|refine Sp.h ?_|refine Lk.r rfl ?_|refine Rf.mk rfl ?_|refine xB ?_|refine Im.mk fun _=>?_|refine xT ?_|fail)
  refine CA.loop (fun i : Nat => ⟨[(1, .val (.pointer (some ⟨b1, 0, none⟩))), (7, it i)], [blkR b1 30 (modC m)]⟩) (fun i => i ≤ m.hides.length) (fun i => m.hides.length - i) 0 xE (Nat.zero_le _) ?_
  intro i hi
  by_cases hin : i < m.hides.length
  ·obtain ⟨⟨h1, h2, h3⟩, hh⟩ := get_of hin
   have hld := leads_c m m.tables.length (by omega) h3 h1
   repeat' (first|refine Sp.h ?_|refine Lk.r rfl ?_|refine Rf.mk rfl ?_|refine xA ?_|refine OpK.r rfl ?_|refine Im.mk fun _=>?_|refine xT ?_|refine xI ?_|refine Ch.l ⟨rfl, rfl⟩ ?_|refine xD ?_|fail)
   refine xW (hld) ?_
   rintro _ _ ⟨x, rfl, rfl⟩
   cases x
   ·repeat' (first|refine Sp.h ?_|refine Lk.r rfl ?_|refine Rf.mk rfl ?_|refine xO ?_|fail)
    exact PA.lp (i + 1) xE ⟨hin, by omega⟩
   ·repeat' (first|refine Sp.h ?_|refine Lk.r rfl ?_|refine Rf.mk rfl ?_|refine xN ?_|fail)
    exact ⟨_, _, .one (.same (.z)), _, rfl, rfl⟩
  ·repeat' (first|refine Sp.h ?_|refine Lk.r rfl ?_|refine Rf.mk rfl ?_|refine xB ?_|refine Im.mk fun _=>?_|refine xT ?_|refine xN ?_|fail)
   exact ⟨_, _, .one (.same (.z)), _, rfl, rfl⟩
end Go.Proofs.YtajenkpjcbaadaaGreat
namespace Go.Proofs.YtajenkpjcbaadaaGreat
open Go Go.CF
set_option maxRecDepth 20000
theorem col_get {sizes cols : List Int} (h : ColOK sizes cols) {i : Nat} {x : Int} (hx : cols[i]? = some x) : ∃ j : Nat, x = (j : Int) ∧ ∃ y, sizes[j]? = some y ∧ 1 ≤ y ∧ y ≤ 6 := by
 obtain ⟨h1, h2⟩ := h.2.2 x (List.mem_of_getElem? hx)
 obtain ⟨j, rfl⟩ := Int.eq_ofNat_of_zero_le h1
 obtain ⟨y, hy⟩ := get_of (l := sizes) (i := j) (by omega)
 exact ⟨j, rfl, y, hy, h.2.1 y (List.mem_of_getElem? hy)⟩
theorem nth_c (sizes cols : List Int) (k : Int) (h : ColOK sizes cols) (hk : 0 ≤ k ∧ k ≤ 1000) : CallA Tryz.prog 225 [ints sizes, ints cols, it k] [] fun r own => ∃ l, r = ints l ∧ own = [] := by
 have hl := h.1
 refine CallA.of pg ord225 Tryz.func225 rfl Tryz.ntmps225 Tryz.results225 rfl fun h0 G0 O0 => ?_
 repeat' (first|refine Sp.h ?_|refine Lk.r rfl ?_|refine Rf.mk rfl ?_|refine Im.mk fun _=>?_|refine All.mk fun _=>?_|refine xN ?_|refine Rf.mk ⟨rfl, rfl, rfl⟩ ?_|(apply Jx.r;(focus exact rfl);(focus first|omega|(simp;done)|(simp;omega)))|refine MkS.r intC 0 rfl ?_|refine xO ?_|fail)
 rename_i v _
 refine CA.loop (fun x : Nat × Int × List Int => ⟨[(0, ints sizes), (1, ints cols), (2, it x.2.1), (7, .ow v), (8, it ((x.1 : Int) - 1))], [arrR v 3 1 x.2.2 intC]⟩) (fun x => x.1 ≤ cols.length ∧ 0 ≤ x.2.1 ∧ x.2.1 ≤ 1000 ∧ x.2.2.length = cols.length) (fun x => x.1) (cols.length, k, List.replicate cols.length 0) xE ⟨Nat.le_refl _, hk.1, hk.2, by simp⟩ ?_
 rintro ⟨i, k, l⟩ ⟨hi, hk1, hk2, hll⟩
 simp only at hi hk1 hk2 hll
 simp only
 cases i with
 | zero =>
  repeat' (first|refine Sp.h ?_|refine Lk.r rfl ?_|refine Rf.mk rfl ?_|refine xB ?_|refine xN ?_|fail)
  exact ⟨_, _, .one (.fz (by repeat constructor) (by omega) (.z)), l, rfl, rfl⟩
 | succ i =>
  obtain ⟨x, hx⟩ := get_of (l := cols) (i := i) (by omega)
  obtain ⟨j, rfl, y, hy, hy1, hy2⟩ := col_get h hx
  obtain ⟨z, hz⟩ := get_of (l := l) (i := i) (by omega)
  have e : (((i + 1 : Nat) : Int) - 1) = (i : Int) := by omega
  rw [e]
  repeat' (first|refine Sp.h ?_|refine Lk.r rfl ?_|refine Rf.mk rfl ?_|refine xA ?_|refine xP ?_|refine xU ?_|refine xI ?_|refine xJ ?_|refine xV ?_|refine Up.r rfl ?_|refine xO ?_|fail)
  have hq0 : 0 ≤ k / y := Int.ediv_nonneg hk1 (by omega)
  have hq1 : k / y ≤ k := Int.ediv_le_self _ hk1
  exact PA.lp (i, k / y, _) xE ⟨⟨by simp only;omega, hq0, by simp only;omega, by simp only [List.length_set];exact hll⟩, by simp only;omega⟩
set_option maxHeartbeats 1000000 in
theorem tuple_c (sizes : List Int) (l : List TblS) (s : Bool) (cell : Int) : CallA Tryz.prog 210 [ints sizes, tbls l, .val (.bool s), it cell] [] fun r own => ∃ (i : Nat) (q : List Int) (b : Bool), r = .tup [it i, ints q, .val (.bool b)] ∧ own = [] ∧ (b = true → i < l.length) := by
 refine CallA.of pg ord210 Tryz.func210 rfl Tryz.ntmps210 Tryz.results210 rfl fun h0 G0 O0 => ?_
 repeat' (first|refine Sp.h ?_|refine Lk.r rfl ?_|refine Rf.mk rfl ?_|fail)
 refine xW (valid9_c sizes l) ?_
 rintro _ _ ⟨b, rfl, rfl, hv⟩
 cases b
 ·repeat' (first|refine Sp.h ?_|refine Lk.r rfl ?_|refine Rf.mk rfl ?_|refine xB ?_|refine xN ?_|fail)
  exact ⟨_, _, .tup (.same (.nilr (.same (.z)))), 0, [], false, rfl, rfl, fun h => by cases h⟩
 obtain ⟨h1, h2, h3, h4⟩ := hv rfl
 repeat' (first|refine Sp.h ?_|refine Lk.r rfl ?_|refine Rf.mk rfl ?_|refine xA ?_|fail)
 refine CA.loop (fun i : Nat => ⟨[(0, ints sizes), (1, tbls l), (2, .val (.bool s)), (3, it cell), (11, it i)], []⟩) (fun i => i ≤ l.length) (fun i => l.length - i) 0 xE (Nat.zero_le _) ?_
 intro i hi
 by_cases hin : i < l.length
 ·obtain ⟨t, ht⟩ := get_of hin
  have hT := h4 t (List.mem_of_getElem? ht)
  have hn := num_le sizes t.cols
  repeat' (first|refine Sp.h ?_|refine Lk.r rfl ?_|refine Rf.mk rfl ?_|refine xA ?_|refine Im.mk fun _=>?_|refine xI ?_|fail)
  apply Ov.w
  intro r _ _ _
  by_cases hk : 0 ≤ r ∧ r < numF sizes t.cols
  ·have hnt := nth_c sizes t.cols r hT.1 (by omega)
   repeat' (first|refine Sp.h ?_|refine Lk.r rfl ?_|refine Rf.mk rfl ?_|refine xA ?_|refine xB ?_|(refine Bd.mk ?_ ?_ <;> intro _)|refine xI ?_|refine xO ?_|(apply Cl.p (strict9_p _);focus repeat' constructor)|(apply Cl.p (number_p _ _);focus repeat' constructor))
   all_goals try exact PA.lp (i + 1) xE ⟨hin, by omega⟩
   all_goals refine xW (hnt) ?_
   all_goals rintro _ _ ⟨q, rfl, rfl⟩
   all_goals repeat' (first|refine Sp.h ?_|refine Lk.r rfl ?_|refine xN ?_|fail)
   all_goals exact ⟨_, _, .tup (.same (.same (.same (.z)))), i, q, true, rfl, rfl, fun _ => hin⟩
  ·repeat' (first|refine Sp.h ?_|refine Lk.r rfl ?_|refine Rf.mk rfl ?_|refine xA ?_|refine xB ?_|(refine Bd.mk ?_ ?_ <;> intro _)|refine xI ?_|refine xO ?_|(apply Cl.p (strict9_p _);focus repeat' constructor)|(apply Cl.p (number_p _ _);focus repeat' constructor))
   all_goals first
    | exact PA.lp (i + 1) xE ⟨hin, by omega⟩
    | exact (hk ⟨by omega, by omega⟩).elim
 ·repeat' (first|refine Sp.h ?_|refine Lk.r rfl ?_|refine Rf.mk rfl ?_|refine xB ?_|refine Im.mk fun _=>?_|refine xN ?_|fail)
  exact ⟨_, _, .tup (.same (.nilr (.same (.z)))), 0, [], false, rfl, rfl, fun h => by cases h⟩
def isSet13 (k : Int) : Prop := k = 2 ∨ k = 3
noncomputable instance (k : Int) : Decidable (isSet13 k) := Classical.propDecidable _
theorem set13_p (k : Int) : CallP Tryz.prog 211 [it k] (.val (.bool (decide (isSet13 k)))) := by
 refine CallA.of pg ord211 Tryz.func211 rfl Tryz.ntmps211 Tryz.results211 rfl fun h0 G0 O0 => ?_
 repeat' (first|refine Sp.h ?_|refine Lk.r rfl ?_|refine Rf.mk rfl ?_|refine xA ?_|refine xB ?_|(refine Bd.mk ?_ ?_ <;> intro _)|refine xN ?_|fail)
 all_goals refine Fin.p rfl (vb ?_)
 all_goals first
  | exact decide_eq_decide.2 (by unfold isSet13;omega)
  | exact (decide_eq_true (by unfold isSet13;omega)).symm
set_option maxHeartbeats 4000000 in
theorem effect_c (m : ModS) (x : EffS) : CallB Tryz.prog 180 [mdl m, .agg (effC x)] := by
 have hb := fun p : Int × Int => between13_p p.2 1000000000 (by omega)
 refine CallA.of pg ord180 Tryz.func180 rfl Tryz.ntmps180 Tryz.results180 rfl fun h0 G0 O0 => ?_
 repeat' (first|refine Sp.h ?_|refine Lk.r rfl ?_|refine Rf.mk rfl ?_|refine All.mk fun _=>?_|refine xT ?_|refine Ch.l ⟨rfl, rfl⟩ ?_|fail)
 refine xW (strict13_c m) ?_
 rintro _ _ ⟨rs, rfl, rfl, hr1, hr2⟩
 repeat' (first|refine Sp.h ?_|refine Lk.r rfl ?_|refine Rf.mk rfl ?_|refine Im.mk fun _=>?_|fail)
 rename_i b2 b3 _
 refine CA.loop (fun i : Nat => ⟨[(2, .val (.pointer (some ⟨b2, 0, none⟩))), (3, .val (.pointer (some ⟨b3, 0, none⟩))), (5, it (rs.length : Nat)), (6, it i)], [blkR b3 84 (effC x), blkR b2 30 (modC m)]⟩) (fun i => i ≤ x.delta.length) (fun i => x.delta.length - i) 0 xE (Nat.zero_le _) ?_
 intro i hi
 by_cases hin : i < x.delta.length
 ·obtain ⟨p, hp⟩ := get_of hin
  have hbp := hb p
  rcases Nat.eq_zero_or_pos i with h0|h0
  ·subst h0
   repeat' (first|refine Sp.h ?_|refine Lk.r rfl ?_|refine Rf.mk rfl ?_|refine xA ?_|refine xB ?_|(refine Bd.mk ?_ ?_ <;> intro _)|refine OpK.r rfl ?_|refine Im.mk fun _=>?_|refine All.mk fun _=>?_|refine xT ?_|refine xI ?_|refine Ch.l ⟨rfl, rfl⟩ ?_|(apply SetAsk.r;focus repeat' constructor)|refine xN ?_|refine xD ?_|refine xO ?_|(apply Cl.p (hbp);focus repeat' constructor))
   all_goals first
    | exact ⟨_, _, .one (.same (.z)), _, rfl, rfl⟩
    | exact PA.lp 1 xE ⟨hin, by omega⟩
  ·obtain ⟨k, rfl⟩ : ∃ k, i = k + 1 := ⟨i - 1, by omega⟩
   obtain ⟨q, hq⟩ := get_of (l := x.delta) (i := k) (by omega)
   repeat' (first|refine Sp.h ?_|refine Lk.r rfl ?_|refine Rf.mk rfl ?_|refine xA ?_|refine xB ?_|(refine Bd.mk ?_ ?_ <;> intro _)|refine OpK.r rfl ?_|refine Im.mk fun _=>?_|refine All.mk fun _=>?_|refine xT ?_|refine xI ?_|(apply Ix.r;(focus assumption);(focus omega))|refine Ch.l ⟨rfl, rfl⟩ ?_|(apply SetAsk.r;focus repeat' constructor)|refine xN ?_|refine xD ?_|refine xO ?_|(apply Cl.p (hbp);focus repeat' constructor))
   all_goals first
    | exact ⟨_, _, .one (.same (.z)), _, rfl, rfl⟩
    | exact PA.lp (k + 1 + 1) xE ⟨hin, by omega⟩
 repeat' (first|refine Sp.h ?_|refine Lk.r rfl ?_|refine Rf.mk rfl ?_|refine xB ?_|refine Im.mk fun _=>?_|refine xT ?_|fail)
 refine CA.loop (fun i : Nat => ⟨[(2, .val (.pointer (some ⟨b2, 0, none⟩))), (3, .val (.pointer (some ⟨b3, 0, none⟩))), (5, it (rs.length : Nat)), (8, it i)], [blkR b3 84 (effC x), blkR b2 30 (modC m)]⟩) (fun i => i ≤ x.hold.length) (fun i => x.hold.length - i) 0 xE (Nat.zero_le _) ?_
 intro i hi
 by_cases hin : i < x.hold.length
 ·obtain ⟨r, hr⟩ := get_of hin
  have hrow := row_c r (rs.length : Nat)
  repeat' (first|refine Sp.h ?_|refine Lk.r rfl ?_|refine Rf.mk rfl ?_|refine xA ?_|refine Im.mk fun _=>?_|refine xT ?_|refine xI ?_|refine Ch.l ⟨rfl, rfl⟩ ?_|fail)
  refine xW (hrow) ?_
  rintro _ _ ⟨b, rfl, rfl, -⟩
  cases b
  ·repeat' (first|refine Sp.h ?_|refine Lk.r rfl ?_|refine Rf.mk rfl ?_|refine xB ?_|refine xN ?_|fail)
   exact ⟨_, _, .one (.same (.z)), _, rfl, rfl⟩
  ·repeat' (first|refine Sp.h ?_|refine Lk.r rfl ?_|refine Rf.mk rfl ?_|refine xA ?_|refine xO ?_|fail)
   exact PA.lp (i + 1) xE ⟨hin, by omega⟩
 repeat' (first|refine Sp.h ?_|refine Lk.r rfl ?_|refine Rf.mk rfl ?_|refine xB ?_|refine Im.mk fun _=>?_|refine xT ?_|fail)
 refine CA.loop (fun i : Nat => ⟨[(2, .val (.pointer (some ⟨b2, 0, none⟩))), (3, .val (.pointer (some ⟨b3, 0, none⟩))), (9, it i)], [blkR b3 84 (effC x), blkR b2 30 (modC m)]⟩) (fun i => i ≤ x.updates.length) (fun i => x.updates.length - i) 0 xE (Nat.zero_le _) ?_
 intro i hi
 by_cases hin : i < x.updates.length
 ·obtain ⟨⟨uk, uc, uv⟩, hu⟩ := get_of hin
  repeat' (first|refine Sp.h ?_|refine Lk.r rfl ?_|refine Rf.mk rfl ?_|refine xA ?_|refine Im.mk fun _=>?_|refine All.mk fun _=>?_|refine xT ?_|refine xI ?_|refine Ch.l ⟨rfl, rfl⟩ ?_|(apply SetAsk.r;focus repeat' constructor)|refine xN ?_|fail)
  refine xW (tuple_c _ _ _ _) ?_
  rintro _ _ ⟨ti, q, b, rfl, rfl, hti⟩
  cases b
  ·repeat' (first|refine Sp.h ?_|refine Lk.r rfl ?_|refine Rf.mk rfl ?_|refine xB ?_|refine OpK.r rfl ?_|refine xN ?_|refine xD ?_|fail)
   exact ⟨_, _, .one (.same (.z)), _, rfl, rfl⟩
  have hti := hti rfl
  obtain ⟨t, ht⟩ := get_of hti
  rcases Nat.eq_zero_or_pos i with h0|h0
  ·subst h0
   repeat' (first|refine Sp.h ?_|refine Lk.r rfl ?_|refine Rf.mk rfl ?_|refine xA ?_|refine xB ?_|(refine Bd.mk ?_ ?_ <;> intro _)|refine OpK.r rfl ?_|refine All.mk fun _=>?_|refine xT ?_|refine xI ?_|refine Ch.l ⟨rfl, rfl⟩ ?_|(apply SetAsk.r;focus repeat' constructor)|refine xN ?_|refine xD ?_|refine xO ?_|(apply Cl.p (set13_p _);focus repeat' constructor))
   all_goals first
    | exact ⟨_, _, .one (.same (.z)), _, rfl, rfl⟩
    | exact PA.lp 1 xE ⟨hin, by omega⟩
  ·obtain ⟨k, rfl⟩ : ∃ k, i = k + 1 := ⟨i - 1, by omega⟩
   obtain ⟨⟨wk, wc, wv⟩, hw⟩ := get_of (l := x.updates) (i := k) (by omega)
   repeat' (first|refine Sp.h ?_|refine Lk.r rfl ?_|refine Rf.mk rfl ?_|refine xA ?_|refine xB ?_|(refine Bd.mk ?_ ?_ <;> intro _)|refine OpK.r rfl ?_|refine All.mk fun _=>?_|refine xT ?_|refine xI ?_|(apply Ix.r;(focus assumption);(focus omega))|refine Ch.l ⟨rfl, rfl⟩ ?_|(apply SetAsk.r;focus repeat' constructor)|refine xN ?_|refine xD ?_|refine xO ?_|(apply Cl.p (set13_p _);focus repeat' constructor))
   all_goals first
    | exact ⟨_, _, .one (.same (.z)), _, rfl, rfl⟩
    | exact PA.lp (k + 1 + 1) xE ⟨hin, by omega⟩
 repeat' (first|refine Sp.h ?_|refine Lk.r rfl ?_|refine Rf.mk rfl ?_|refine xA ?_|refine xB ?_|(refine Bd.mk ?_ ?_ <;> intro _)|refine Im.mk fun _=>?_|refine xT ?_|refine xN ?_|fail)
 all_goals exact ⟨_, _, .one (.same (.z)), _, rfl, rfl⟩
end Go.Proofs.YtajenkpjcbaadaaGreat
namespace Go.Proofs.YtajenkpjcbaadaaGreat
open Go Go.CF
set_option maxRecDepth 20000
def SrtOK (m : ModS) (l : List OpS) : Prop := ∀ o ∈ l, ∀ s ∈ o.sorts, -1 ≤ s ∧ s < m.sorts.length
abbrev pm (b : Nat) : AV := .val (.pointer (some ⟨b, 0, none⟩))
abbrev mR (b : Nat) (m : ModS) : Res := blkR b 30 (modC m)
set_option maxHeartbeats 8000000 in
theorem actions_c (m : ModS) (hol : m.ops.length ≤ 1000000000) : CallB Tryz.prog 139 [mdl m] := by
 refine CallA.of pg ord139 Tryz.func139 rfl Tryz.ntmps139 Tryz.results139 rfl fun h0 G0 O0 => ?_
 repeat' (first|refine Sp.h ?_|refine Lk.r rfl ?_|refine Rf.mk rfl ?_|refine All.mk fun _=>?_|(apply Fk.r;focus repeat' first|infer_instance|constructor)|refine Rf.mk ⟨rfl, rfl, rfl⟩ ?_|fail)
 rename_i b1 v
 apply CA.retype (m := ([] : List ByteArray)) (g := strC)
 focus (repeat constructor)
 focus rfl
 refine CA.loop (fun x : Nat × Value × List ByteArray => ⟨[(1, pm b1), (3, .ow x.2.1), (4, it x.1)], [mR b1 m, arrR x.2.1 9 1 x.2.2 strC]⟩) (fun x => x.1 ≤ m.ops.length ∧ x.2.2.length = x.1 ∧ x.1 ≤ 1000000000 ∧ SrtOK m (m.ops.take x.1)) (fun x => m.ops.length - x.1) (0, v, []) xE ⟨Nat.zero_le _, rfl, by simp, by simp [SrtOK]⟩ ?_
 rintro ⟨i, v, names⟩ ⟨hi, hnm, hib, hso⟩
 simp only at hi hnm hib hso
 simp only
 by_cases hin : i < m.ops.length
 ·obtain ⟨o, ho⟩ := get_of hin
  have hbig : i < 1000000000 := by omega
  ·repeat' (first|refine Sp.h ?_|refine Lk.r rfl ?_|refine Rf.mk rfl ?_|refine xA ?_|refine xP ?_|refine Im.mk fun _=>?_|refine All.mk fun _=>?_|refine xU ?_|refine xT ?_|refine xI ?_|refine Ce.r ?_|refine Ch.l ⟨rfl, rfl⟩ ?_|(apply SetAsk.r;focus repeat' constructor)|(apply Fk.r;focus repeat' first|infer_instance|constructor)|refine xN ?_|refine Rf.mk ⟨rfl, rfl⟩ ?_|refine Rf.mk ⟨rfl, rfl, rfl⟩ ?_|(apply Mp.lit;(focus repeat (first|exact MpL.nil|(apply MpL.cons;(focus rfl))|(apply MpL.inv;(focus repeat constructor);(focus infer_instance)))))|fail)
   rename_i b5 _ v2
   refine CA.loop (fun k : Nat => ⟨[(1, pm b1), (3, .ow v2), (4, it i), (5, pm b5), (6, it k)], [mR b1 m, arrR v2 9 1 (names ++ [o.name]) strC, blkR b5 150 (opC o)]⟩) (fun k => k ≤ o.sorts.length ∧ ∀ s ∈ o.sorts.take k, -1 ≤ s ∧ s < m.sorts.length) (fun k => o.sorts.length - k) 0 xE ⟨Nat.zero_le _, by simp⟩ ?_
   rintro k ⟨hk, hks⟩
   by_cases hkn : k < o.sorts.length
   ·obtain ⟨s, hs⟩ := get_of hkn
    repeat' (first|refine Sp.h ?_|refine Lk.r rfl ?_|refine Rf.mk rfl ?_|refine xA ?_|refine xB ?_|(refine Bd.mk ?_ ?_ <;> intro _)|refine OpK.r rfl ?_|refine Im.mk fun _=>?_|refine xT ?_|refine xI ?_|refine xN ?_|refine xD ?_|refine xO ?_|fail)
    all_goals first
     | exact ⟨_, _, .one (.same (.z)), _, rfl, rfl⟩
     | exact PA.lp (k + 1) xE ⟨⟨hkn, all_succ hs hks ⟨by omega, by omega⟩⟩, by omega⟩
   ·have : k = o.sorts.length := by omega
    subst this
    rw [List.take_length] at hks
    repeat' (first|refine Sp.h ?_|refine Lk.r rfl ?_|refine Rf.mk rfl ?_|refine xB ?_|(refine Bd.mk ?_ ?_ <;> intro _)|refine Im.mk fun _=>?_|refine xT ?_|refine xN ?_|refine xO ?_|fail)
    all_goals first
     | exact ⟨_, _, .one (.same (.z)), _, rfl, rfl⟩
     | exact PA.lp (i + 1, v2, names ++ [o.name]) xE ⟨⟨hin, by simp [hnm], by simp only;omega, all_succ ho hso hks⟩, by simp only;omega⟩
 have hie : i = m.ops.length := by omega
 subst hie
 rw [List.take_length] at hso
 have hd := distinct_c names
 repeat' (first|refine Sp.h ?_|refine Lk.r rfl ?_|refine Rf.mk rfl ?_|refine xA ?_|refine xB ?_|(refine Bd.mk ?_ ?_ <;> intro _)|refine Im.mk fun _=>?_|refine xT ?_|refine xN ?_|fail)
 all_goals try exact ⟨_, _, .one (.same (.z)), _, rfl, rfl⟩
 (apply Cl.fz;(focus repeat' (first|exact FZ.nil|(apply FZ.fz;(focus repeat constructor);(focus first|omega|decide|exact Nat.le_of_ble_eq_true rfl|(simp <;> omega)))|apply FZ.agg|apply FZ.same)))
 refine xW (hd) ?_
 rintro _ _ ⟨bb, rfl, rfl⟩
 cases bb
 ·repeat' (first|refine Sp.h ?_|refine Lk.r rfl ?_|refine Rf.mk rfl ?_|refine xB ?_|refine xN ?_|fail)
  exact ⟨_, _, .one (.same (.z)), _, rfl, rfl⟩
 repeat' (first|refine Sp.h ?_|refine Lk.r rfl ?_|refine Rf.mk rfl ?_|refine xA ?_|refine xB ?_|(refine Bd.mk ?_ ?_ <;> intro _)|refine Im.mk fun _=>?_|refine xT ?_|refine xN ?_|fail)
 all_goals try exact ⟨_, _, .one (.same (.z)), _, rfl, rfl⟩
 refine CA.loop (fun i : Nat => ⟨[(1, pm b1), (7, it i)], [mR b1 m]⟩) (fun i => i ≤ m.acts.length) (fun i => m.acts.length - i) 0 xE (Nat.zero_le _) ?_
 intro i hi
 by_cases hin : i < m.acts.length
 ·obtain ⟨a, ha⟩ := get_of hin
  by_cases hb : 0 ≤ a.op ∧ a.op < m.ops.length
  ·obtain ⟨j, hj⟩ := Int.eq_ofNat_of_zero_le hb.1
   obtain ⟨o, ho⟩ := get_of (l := m.ops) (i := j) (by omega)
   have hos := hso o (List.mem_of_getElem? ho)
   have hj0 : 0 ≤ a.op := hb.1
   have hj1 : a.op < m.ops.length := hb.2
   clear hb
   by_cases hlen : a.args.length = o.sorts.length
   ·repeat' (first|refine Sp.h ?_|refine Lk.r rfl ?_|refine Rf.mk rfl ?_|refine xA ?_|refine xB ?_|refine OpK.r rfl ?_|refine Im.mk fun _=>?_|refine All.mk fun _=>?_|refine xT ?_|refine xI ?_|(apply Ix.r;(focus assumption);(focus omega))|refine Ch.l ⟨rfl, rfl⟩ ?_|(apply SetAsk.r;focus repeat' constructor)|refine xN ?_|refine xD ?_|fail)
    rename_i b8 _ _ _
    refine CA.loop (fun k : Nat => ⟨[(1, pm b1), (7, it i), (8, pm b8), (9, it k)], [mR b1 m, blkR b8 86 (actC a)]⟩) (fun k => k ≤ a.args.length) (fun k => a.args.length - k) 0 xE (Nat.zero_le _) ?_
    intro k hk
    by_cases hkn : k < a.args.length
    ·obtain ⟨x, hx⟩ := get_of hkn
     obtain ⟨s, hs⟩ := get_of (l := o.sorts) (i := k) (by omega)
     obtain ⟨hs1, hs2⟩ := hos s (List.mem_of_getElem? hs)
     have hbw := between13_p x 9999 (by omega)
     by_cases hs0 : s < 0
     ·repeat' (first|refine Sp.h ?_|refine Lk.r rfl ?_|refine Rf.mk rfl ?_|refine xA ?_|refine xB ?_|(refine Bd.mk ?_ ?_ <;> intro _)|refine OpK.r rfl ?_|refine Im.mk fun _=>?_|refine xT ?_|refine xI ?_|(apply Ix.r;(focus assumption);(focus omega))|refine xN ?_|refine xD ?_|refine xO ?_|(apply Cl.p (hbw);focus repeat' constructor))
      all_goals first
       | exact ⟨_, _, .one (.same (.z)), _, rfl, rfl⟩
       | exact PA.lp (k + 1) xE ⟨hkn, by omega⟩
     ·obtain ⟨q, hq⟩ := Int.eq_ofNat_of_zero_le (show 0 ≤ s by omega)
      obtain ⟨y, hy⟩ := get_of (l := m.sorts) (i := q) (by omega)
      repeat' (first|refine Sp.h ?_|refine Lk.r rfl ?_|refine Rf.mk rfl ?_|refine xA ?_|refine xB ?_|(refine Bd.mk ?_ ?_ <;> intro _)|refine OpK.r rfl ?_|refine Im.mk fun _=>?_|refine xT ?_|refine xI ?_|(apply Ix.r;(focus assumption);(focus omega))|refine xN ?_|refine xD ?_|refine xO ?_|(apply Cl.p (hbw);(focus repeat' (first|fail))))
      all_goals first
       | exact ⟨_, _, .one (.same (.z)), _, rfl, rfl⟩
       | exact PA.lp (k + 1) xE ⟨hkn, by omega⟩
    ·rcases Nat.eq_zero_or_pos i with h0|h0
     ·subst h0
      repeat' (first|refine Sp.h ?_|refine Lk.r rfl ?_|refine Rf.mk rfl ?_|refine xB ?_|refine Im.mk fun _=>?_|refine xT ?_|refine Ch.l ⟨rfl, rfl⟩ ?_|refine Ch.r ?_|fail)
      refine xW (effect_c m a.eff) ?_
      rintro _ _ ⟨bb, rfl, rfl⟩
      cases bb
      ·repeat' (first|refine Sp.h ?_|refine Lk.r rfl ?_|refine Rf.mk rfl ?_|refine xB ?_|refine xN ?_|fail)
       exact ⟨_, _, .one (.same (.z)), _, rfl, rfl⟩
      ·repeat' (first|refine Sp.h ?_|refine Lk.r rfl ?_|refine Rf.mk rfl ?_|refine xA ?_|refine xO ?_|fail)
       exact PA.lp 1 xE ⟨hin, by omega⟩
     ·obtain ⟨q, rfl⟩ : ∃ q, i = q + 1 := ⟨i - 1, by omega⟩
      obtain ⟨b, hbb⟩ := get_of (l := m.acts) (i := q) (by omega)
      have hls := less_c b.args a.args
      repeat' (first|refine Sp.h ?_|refine Lk.r rfl ?_|refine Rf.mk rfl ?_|refine xA ?_|refine xB ?_|(refine Bd.mk ?_ ?_ <;> intro _)|refine Im.mk fun _=>?_|refine All.mk fun _=>?_|refine xT ?_|(apply Ix.r;(focus assumption);(focus omega))|refine Ch.l ⟨rfl, rfl⟩ ?_|refine Ch.r ?_|(apply SetAsk.r;focus repeat' constructor)|refine xN ?_|refine xO ?_|fail)
      all_goals try exact ⟨_, _, .one (.same (.z)), _, rfl, rfl⟩
      any_goals ((apply Cl.use (hls);(focus repeat' constructor);(focus repeat' constructor);focus rfl);(rintro _ _ ⟨bb, rfl, rfl⟩);cases bb)
      all_goals repeat' (first|refine Sp.h ?_|refine Lk.r rfl ?_|refine Rf.mk rfl ?_|refine xA ?_|refine xB ?_|refine xT ?_|refine Ch.l ⟨rfl, rfl⟩ ?_|refine Ch.r ?_|refine xN ?_|fail)
      all_goals try exact ⟨_, _, .one (.same (.z)), _, rfl, rfl⟩
      all_goals ((apply Cl.use (effect_c m a.eff);(focus repeat' constructor);(focus repeat' constructor);focus rfl);(rintro _ _ ⟨bb, rfl, rfl⟩);cases bb)
      all_goals repeat' (first|refine Sp.h ?_|refine Lk.r rfl ?_|refine Rf.mk rfl ?_|refine xA ?_|refine xB ?_|refine xN ?_|refine xO ?_|fail)
      all_goals first
       | exact ⟨_, _, .one (.same (.z)), _, rfl, rfl⟩
       | exact PA.lp (q + 1 + 1) xE ⟨hin, by omega⟩
   ·repeat' (first|refine Sp.h ?_|refine Lk.r rfl ?_|refine Rf.mk rfl ?_|refine xA ?_|refine xB ?_|refine OpK.r rfl ?_|refine Im.mk fun _=>?_|refine All.mk fun _=>?_|refine xT ?_|refine xI ?_|(apply Ix.r;(focus assumption);(focus omega))|refine Ch.l ⟨rfl, rfl⟩ ?_|(apply SetAsk.r;focus repeat' constructor)|refine xN ?_|refine xD ?_|fail)
    all_goals exact ⟨_, _, .one (.same (.z)), _, rfl, rfl⟩
  ·repeat' (first|refine Sp.h ?_|refine Lk.r rfl ?_|refine Rf.mk rfl ?_|refine xA ?_|refine xB ?_|(refine Bd.mk ?_ ?_ <;> intro _)|refine OpK.r rfl ?_|refine Im.mk fun _=>?_|refine All.mk fun _=>?_|refine xT ?_|refine xI ?_|refine Ch.l ⟨rfl, rfl⟩ ?_|(apply SetAsk.r;focus repeat' constructor)|refine xN ?_|refine xD ?_|fail)
   all_goals first
    | exact ⟨_, _, .one (.same (.z)), _, rfl, rfl⟩
    | exact (hb ⟨by omega, by omega⟩).elim
 repeat' (first|refine Sp.h ?_|refine Lk.r rfl ?_|refine Rf.mk rfl ?_|refine xB ?_|refine Im.mk fun _=>?_|refine xT ?_|refine xN ?_|fail)
 all_goals exact ⟨_, _, .one (.same (.z)), _, rfl, rfl⟩
end Go.Proofs.YtajenkpjcbaadaaGreat
namespace Go.Proofs.YtajenkpjcbaadaaGreat
open Go Go.CF
set_option maxRecDepth 20000
noncomputable instance (a b : EvS) : Decidable (a = b) := Classical.propDecidable _
set_option maxHeartbeats 2000000 in
theorem equalE_p (a b : EvS) : CallP Tryz.prog 143 [evA' a, evA' b] (.val (.bool (decide (a = b)))) := by
 refine CallA.of pg ord143 Tryz.func143 rfl Tryz.ntmps143 Tryz.results143 rfl fun h0 G0 O0 => ?_
 repeat' (first|refine Sp.h ?_|refine Lk.r rfl ?_|refine Rf.mk rfl ?_|refine xA ?_|refine xB ?_|(refine Bd.mk ?_ ?_ <;> intro _)|refine All.mk fun _=>?_|refine xT ?_|refine xN ?_|fail)
 refine xQ (equal_p _ _) ?_
 repeat' (first|refine Sp.h ?_|refine Lk.r rfl ?_|refine Rf.mk rfl ?_|refine xA ?_|refine xB ?_|(refine Bd.mk ?_ ?_ <;> intro _)|refine xT ?_|refine Ch.r ?_|refine xN ?_|refine xK ?_|(apply Kf.mk;(focus kernel_rfl))|fail)
 all_goals refine Fin.p rfl (vb ?_)
 ·refine decide_eq_decide.2 ⟨fun h => ?_, fun h => by rw [h]⟩
  cases a;cases b;simp_all
 all_goals exact (decide_eq_false (fun h => by subst h;first|contradiction|simp_all)).symm
def GiveZ (e : EvS) : Prop := e.gk = 0 ∧ e.gi = 0 ∧ e.ge = 0 ∧ e.ga = 0 ∧ e.to = 0
def Sub0 (e : EvS) : Prop := Btw e.action 0 255 ∧ Btw e.place 0 1024 ∧ Btw e.serial 1 1048576
def Sub1 (e : EvS) : Prop := Btw e.gk 0 1 ∧ Btw e.ge 0 (if e.gk = 1 then 5 else 0) ∧ Btw e.gi 0 1023 ∧ Btw e.ga 1 1000000 ∧ Btw e.to 0 (e.past.length - 1) ∧ e.to ≠ e.rep
def Sub2 (e : EvS) : Prop := Btw e.place 1 1024 ∧ Btw e.serial 1 1048576
noncomputable instance (e : EvS) : Decidable (Sub0 e) := Classical.propDecidable _
noncomputable instance (e : EvS) : Decidable (Sub1 e) := Classical.propDecidable _
noncomputable instance (e : EvS) : Decidable (Sub2 e) := Classical.propDecidable _
def KindOK (e : EvS) : Prop := (e.kind = 0 ∧ Sub0 e ∧ GiveZ e) ∨ (e.kind = 1 ∧ Sub1 e ∧ e.action = 0 ∧ e.place = 0 ∧ e.serial = 0) ∨ (e.kind = 2 ∧ Sub2 e ∧ e.action = 0 ∧ GiveZ e)
def FormedE (e : EvS) : Prop := ValC e.past ∧ 0 ≤ e.rep ∧ (∃ x, e.past[e.rep.toNat]? = some x ∧ e.num = x + 1) ∧ e.num ≤ 1024 ∧ Btw e.time 1 1073741824 ∧ KindOK e
noncomputable instance (e : EvS) : Decidable (FormedE e) := Classical.propDecidable _
theorem forms1_a (e : EvS) (b : Nat) (c0 c1 c2 c3 c4 c5 c6 c7 c8 c9 c10 c11 c12 : AV) :
  CallA Tryz.prog 182 [.val (.pointer (some ⟨b, 0, none⟩)), .ad (evC e) 0] [blkR b 40 [c0, c1, c2, c3, c4, c5, c6, c7, c8, c9, c10, c11, c12]] fun r own => r = .val (.bool (decide (Sub0 e))) ∧ own = [blkR b 40 [c0, c1, c2, c3, c4, iv 0, c6, c7, c8, c9, c10, iv 0, iv 0]] := by
 refine CallA.of pg ord182 Tryz.func182 rfl Tryz.ntmps182 Tryz.results182 rfl fun h0 G0 O0 => ?_
 repeat' (first|refine Sp.h ?_|refine Lk.r rfl ?_|refine Rf.mk rfl ?_|refine xA ?_|refine xB ?_|(refine Bd.mk ?_ ?_ <;> intro _)|refine xT ?_|refine xV ?_|refine xN ?_|(apply Cl.p (between_p _ _ _);focus repeat' constructor))
 all_goals refine ⟨_, _, .one (.same (.z)), vb ?_, rfl⟩
 ·exact decide_eq_decide.2 ⟨fun h => ⟨by assumption, by assumption, h⟩, fun h => h.2.2⟩
 all_goals exact (decide_eq_false (fun h => by unfold Sub0 at h;simp_all)).symm
set_option maxHeartbeats 2000000 in
theorem forms2_a (e : EvS) (b : Nat) (c0 c1 c2 c3 c4 c5 c6 c7 c8 c9 c10 c11 c12 : AV) (hl : e.past.length ≤ 9223372036854775807) :
  CallA Tryz.prog 183 [.val (.pointer (some ⟨b, 0, none⟩)), .ad (evC e) 0] [blkR b 40 [c0, c1, c2, c3, c4, c5, c6, c7, c8, c9, c10, c11, c12]] fun r own => r = .val (.bool (decide (Sub1 e))) ∧ own = [blkR b 40 [c0, c1, c2, c3, c4, c5, iv 0, iv 0, iv 0, iv 0, iv 0, c11, c12]] := by
 refine CallA.of pg ord183 Tryz.func183 rfl Tryz.ntmps183 Tryz.results183 rfl fun h0 G0 O0 => ?_
 repeat' (first|refine Sp.h ?_|refine Lk.r rfl ?_|refine Rf.mk rfl ?_|refine xA ?_|refine xB ?_|(refine Bd.mk ?_ ?_ <;> intro _)|refine Im.mk fun _=>?_|refine All.mk fun _=>?_|refine xT ?_|refine Ch.r ?_|refine xV ?_|(apply SetAsk.r;focus repeat' constructor)|(apply Fk.r;focus repeat' first|infer_instance|constructor)|refine xN ?_|refine xO ?_|(apply Cl.p (between_p _ _ _);focus repeat' constructor))
 all_goals refine ⟨_, _, .one (.same (.z)), vb ?_, rfl⟩
 all_goals first
  | exact (decide_eq_false (by unfold Sub1;simp_all)).symm
  | exact decide_eq_decide.2 (by unfold Sub1;simp_all)
theorem forms3_a (e : EvS) (b : Nat) (c0 c1 c2 c3 c4 c5 c6 c7 c8 c9 c10 c11 c12 : AV) :
  CallA Tryz.prog 184 [.val (.pointer (some ⟨b, 0, none⟩)), .ad (evC e) 0] [blkR b 40 [c0, c1, c2, c3, c4, c5, c6, c7, c8, c9, c10, c11, c12]] fun r own => r = .val (.bool (decide (Sub2 e))) ∧ own = [blkR b 40 [c0, c1, c2, c3, c4, c5, c6, c7, c8, c9, c10, iv 0, iv 0]] := by
 refine CallA.of pg ord184 Tryz.func184 rfl Tryz.ntmps184 Tryz.results184 rfl fun h0 G0 O0 => ?_
 repeat' (first|refine Sp.h ?_|refine Lk.r rfl ?_|refine Rf.mk rfl ?_|refine xA ?_|refine xB ?_|(refine Bd.mk ?_ ?_ <;> intro _)|refine xT ?_|refine xV ?_|refine xN ?_|(apply Cl.p (between_p _ _ _);focus repeat' constructor))
 all_goals refine ⟨_, _, .one (.same (.z)), vb ?_, rfl⟩
 ·exact decide_eq_decide.2 ⟨fun h => ⟨by assumption, h⟩, fun h => h.2⟩
 all_goals exact (decide_eq_false (fun h => by unfold Sub2 at h;simp_all)).symm
abbrev fnE (f : FuncId) (e : EvS) : AV := .fn f [.ad (evC e) 0]
abbrev formM (e : EvS) : List (List Int × AV) := [([0], fnE 182 e), ([1], fnE 183 e), ([2], fnE 184 e)]
theorem forms_a (e : EvS) : CallA Tryz.prog 142 [evA' e] [] fun r own => ∃ M, r = .val (.map (some M)) ∧ own = [mapR Tryz.prog M 3 (formM e) fun a : AV => a] := by
 refine CallA.of pg ord142 Tryz.func142 rfl Tryz.ntmps142 Tryz.results142 rfl fun h0 G0 O0 => ?_
 repeat' (first|refine Sp.h ?_|refine Lk.r rfl ?_|refine Rf.mk rfl ?_|refine All.mk fun _=>?_|fail)
 refine MkM.r (fun a : AV => a) ?_
 refine ⟨fun M => ?_⟩
 apply OA.freezeB 1
 focus rfl
 focus (repeat constructor)
 repeat' (first|refine Sp.h ?_|refine Lk.r rfl ?_|refine Rf.mk rfl ?_|refine xN ?_|(apply Kf.mk;(focus kernel_rfl))|refine xM ?_|refine UpV.r rfl ?_|fail)
 exact ⟨_, _, .one (.same (.z)), _, rfl, rfl⟩
def evZ : EvS := ⟨0, 0, 0, [], 0, 0, 0, 0, 0, 0, 0, 0, 0⟩
theorem kind0 {e : EvS} (h : e.kind = 0) : KindOK e ↔ Sub0 e ∧ GiveZ e := by unfold KindOK;rw [h];simp
theorem kind1 {e : EvS} (h : e.kind = 1) : KindOK e ↔ Sub1 e ∧ e.action = 0 ∧ e.place = 0 ∧ e.serial = 0 := by unfold KindOK;rw [h];simp
theorem kind2 {e : EvS} (h : e.kind = 2) : KindOK e ↔ Sub2 e ∧ e.action = 0 ∧ GiveZ e := by unfold KindOK;rw [h];simp
set_option maxHeartbeats 4000000 in
theorem formed_p (e : EvS) : CallP Tryz.prog 77 [evA' e] (.val (.bool (decide (FormedE e)))) := by
 refine CallA.of pg ord77 Tryz.func77 rfl Tryz.ntmps77 Tryz.results77 rfl fun h0 G0 O0 => ?_
 by_cases hr : 0 ≤ e.rep ∧ e.rep < e.past.length
 ·obtain ⟨x, hx⟩ := get_of (l := e.past) (i := e.rep.toNat) (by omega)
  by_cases hv : ValC e.past
  ·have hx2 := hv.1 x (List.mem_of_getElem? hx)
   unfold rngK at hx2
   have hv2 := hv.2
   repeat' (first|refine Sp.h ?_|refine Lk.r rfl ?_|refine Rf.mk rfl ?_|refine xA ?_|refine xB ?_|(refine Bd.mk ?_ ?_ <;> intro _)|refine OpK.r rfl ?_|refine Im.mk fun _=>?_|refine All.mk fun _=>?_|refine xT ?_|(apply Ix.r;(focus assumption);(focus omega))|refine Ch.l ⟨rfl, rfl⟩ ?_|refine xN ?_|refine xD ?_|refine xO ?_|(apply Cl.p (between_p _ _ _);focus repeat' constructor)|(apply Cl.p (validC_p _);focus repeat' constructor))
   all_goals try exact Fin.p rfl (vb (decide_eq_false (fun ⟨h1, h2, ⟨y, hy, h3⟩, h4, h5, h6⟩ => by rw [hx] at hy;cases hy;first|contradiction|(unfold Btw at *;omega))).symm)
   rename_i hb1 hb2 hb3 hb4
   have hF : FormedE e ↔ KindOK e := ⟨fun h => h.2.2.2.2.2, fun h => ⟨hv, hr.1, ⟨x, hx, hb2⟩, by omega, hb4, h⟩⟩
   refine xW (forms_a e) ?_
   rintro _ _ ⟨M, rfl, rfl⟩
   by_cases hk0 : e.kind = 0
   ·have hl : lookL (formM e) [e.kind] = some (fnE 182 e) := by rw [hk0];rfl
    repeat' (first|refine Sp.h ?_|refine Lk.r rfl ?_|refine Rf.mk rfl ?_|refine xA ?_|refine OpK.r rfl ?_|refine All.mk fun _=>?_|refine xT ?_|refine Ch.r ?_|(apply SetAsk.r;focus repeat' constructor)|(apply Fk.r;focus repeat' first|infer_instance|constructor)|refine xN ?_|(apply Kf.mk;(focus kernel_rfl))|refine xM ?_|(apply LkM.s;(focus first|assumption|rfl))|fail)
    refine xW (forms1_a e _ _ _ _ _ _ _ _ _ _ _ _ _ _) ?_
    rintro _ _ ⟨rfl, rfl⟩
    repeat' (first|refine Sp.h ?_|refine Lk.r rfl ?_|refine Rf.mk rfl ?_|refine xA ?_|refine xB ?_|(refine Bd.mk ?_ ?_ <;> intro _)|refine xT ?_|refine Ch.l ⟨rfl, rfl⟩ ?_|(apply Fk.r;focus repeat' first|infer_instance|constructor)|refine xN ?_|fail)
    ·(apply Cl.p (equalE_p { evZ with gk := e.gk, gi := e.gi, ge := e.ge, ga := e.ga, to := e.to } evZ);(focus repeat' (first|exact Lend.nil|apply Lend.keep|apply Lend.nils|apply Lend.agg|fail)))
     repeat' (first|refine Sp.h ?_|refine Lk.r rfl ?_|refine xA ?_|refine xN ?_|fail)
     exact Fin.p rfl (vb (decide_eq_decide.2 ((by simp [evZ, GiveZ, *] : _ ↔ Sub0 e ∧ GiveZ e).trans ((kind0 hk0).symm.trans hF.symm))))
    ·exact Fin.p rfl (vb (decide_eq_false (fun h => by have := (kind0 hk0).1 (hF.1 h);simp_all)).symm)
   by_cases hk1 : e.kind = 1
   ·have hl : lookL (formM e) [e.kind] = some (fnE 183 e) := by rw [hk1];rfl
    have hpl : e.past.length ≤ 9223372036854775807 := by omega
    repeat' (first|refine Sp.h ?_|refine Lk.r rfl ?_|refine Rf.mk rfl ?_|refine xA ?_|refine OpK.r rfl ?_|refine All.mk fun _=>?_|refine xT ?_|refine Ch.r ?_|(apply SetAsk.r;focus repeat' constructor)|(apply Fk.r;focus repeat' first|infer_instance|constructor)|refine xN ?_|(apply Kf.mk;(focus kernel_rfl))|refine xM ?_|(apply LkM.s;(focus first|assumption|rfl))|fail)
    refine xW (forms2_a e _ _ _ _ _ _ _ _ _ _ _ _ _ _ hpl) ?_
    rintro _ _ ⟨rfl, rfl⟩
    repeat' (first|refine Sp.h ?_|refine Lk.r rfl ?_|refine Rf.mk rfl ?_|refine xA ?_|refine xB ?_|(refine Bd.mk ?_ ?_ <;> intro _)|refine xT ?_|refine Ch.l ⟨rfl, rfl⟩ ?_|(apply Fk.r;focus repeat' first|infer_instance|constructor)|refine xN ?_|fail)
    ·(apply Cl.p (equalE_p { evZ with action := e.action, place := e.place, serial := e.serial } evZ);(focus repeat' (first|exact Lend.nil|apply Lend.keep|apply Lend.nils|apply Lend.agg|fail)))
     repeat' (first|refine Sp.h ?_|refine Lk.r rfl ?_|refine xA ?_|refine xN ?_|fail)
     exact Fin.p rfl (vb (decide_eq_decide.2 ((by simp [evZ, *] : _ ↔ Sub1 e ∧ e.action = 0 ∧ e.place = 0 ∧ e.serial = 0).trans ((kind1 hk1).symm.trans hF.symm))))
    ·exact Fin.p rfl (vb (decide_eq_false (fun h => by have := (kind1 hk1).1 (hF.1 h);simp_all)).symm)
   by_cases hk2 : e.kind = 2
   ·have hl : lookL (formM e) [e.kind] = some (fnE 184 e) := by rw [hk2];rfl
    repeat' (first|refine Sp.h ?_|refine Lk.r rfl ?_|refine Rf.mk rfl ?_|refine xA ?_|refine OpK.r rfl ?_|refine All.mk fun _=>?_|refine xT ?_|refine Ch.r ?_|(apply SetAsk.r;focus repeat' constructor)|(apply Fk.r;focus repeat' first|infer_instance|constructor)|refine xN ?_|(apply Kf.mk;(focus kernel_rfl))|refine xM ?_|(apply LkM.s;(focus first|assumption|rfl))|fail)
    refine xW (forms3_a e _ _ _ _ _ _ _ _ _ _ _ _ _ _) ?_
    rintro _ _ ⟨rfl, rfl⟩
    repeat' (first|refine Sp.h ?_|refine Lk.r rfl ?_|refine Rf.mk rfl ?_|refine xA ?_|refine xB ?_|(refine Bd.mk ?_ ?_ <;> intro _)|refine xT ?_|refine Ch.l ⟨rfl, rfl⟩ ?_|(apply Fk.r;focus repeat' first|infer_instance|constructor)|refine xN ?_|fail)
    ·(apply Cl.p (equalE_p { evZ with action := e.action, gk := e.gk, gi := e.gi, ge := e.ge, ga := e.ga, to := e.to } evZ);(focus repeat' (first|exact Lend.nil|apply Lend.keep|apply Lend.nils|apply Lend.agg|fail)))
     repeat' (first|refine Sp.h ?_|refine Lk.r rfl ?_|refine xA ?_|refine xN ?_|fail)
     exact Fin.p rfl (vb (decide_eq_decide.2 ((by simp [evZ, GiveZ, *] : _ ↔ Sub2 e ∧ e.action = 0 ∧ GiveZ e).trans ((kind2 hk2).symm.trans hF.symm))))
    ·exact Fin.p rfl (vb (decide_eq_false (fun h => by have := (kind2 hk2).1 (hF.1 h);simp_all)).symm)
   ·have hl : lookL (formM e) [e.kind] = none := by
     simp only [lookL, formM, List.find?_cons, List.find?_nil]
     simp [Ne.symm hk0, Ne.symm hk1, Ne.symm hk2]
    repeat' (first|refine Sp.h ?_|refine Lk.r rfl ?_|refine Rf.mk rfl ?_|refine xB ?_|refine OpK.r rfl ?_|refine xN ?_|(apply Kf.mk;(focus kernel_rfl))|refine xM ?_|apply Zx.one|(apply LkM.n;(focus first|assumption|rfl))|fail)
    exact Fin.p rfl (vb (decide_eq_false (fun h => by have := hF.1 h;unfold KindOK at this;omega)).symm)
  ·repeat' (first|refine Sp.h ?_|refine Lk.r rfl ?_|refine Rf.mk rfl ?_|refine xB ?_|refine OpK.r rfl ?_|refine All.mk fun _=>?_|refine xT ?_|refine xN ?_|refine xD ?_|(apply Cl.p (validC_p _);focus repeat' constructor))
   exact Fin.p rfl (vb (decide_eq_false (fun h => hv h.1)).symm)
 ·have hnb : ¬ Btw e.rep 0 (e.past.length - 1) := by unfold Btw;omega
  by_cases hv : ValC e.past
  ·have hv2 := hv.2
   repeat' (first|refine Sp.h ?_|refine Lk.r rfl ?_|refine Rf.mk rfl ?_|refine xA ?_|refine xB ?_|refine OpK.r rfl ?_|refine Im.mk fun _=>?_|refine All.mk fun _=>?_|refine xT ?_|refine xN ?_|refine xD ?_|refine xO ?_|(apply Cl.p (between_p _ _ _);focus repeat' constructor)|(apply Cl.p (validC_p _);focus repeat' constructor))
   all_goals exact Fin.p rfl (vb (decide_eq_false (fun ⟨h1, h2, ⟨y, hy, h3⟩, _⟩ => by have := (List.getElem?_eq_some_iff.1 hy).1;omega)).symm)
  ·repeat' (first|refine Sp.h ?_|refine Lk.r rfl ?_|refine Rf.mk rfl ?_|refine xB ?_|refine OpK.r rfl ?_|refine All.mk fun _=>?_|refine xT ?_|refine xN ?_|refine xD ?_|(apply Cl.p (validC_p _);focus repeat' constructor))
   exact Fin.p rfl (vb (decide_eq_false (fun h => hv h.1)).symm)
end Go.Proofs.YtajenkpjcbaadaaGreat
namespace Go.Proofs.YtajenkpjcbaadaaGreat
open Go Go.CF
set_option maxRecDepth 20000
def Cont (a b : List Int) : Prop := AlikeC [a, b] ∧ Ins a b
noncomputable instance (a b : List Int) : Decidable (Cont a b) := Classical.propDecidable _
theorem contained_p (a b : List Int) : CallP Tryz.prog 78 [ints a, ints b] (.val (.bool (decide (Cont a b)))) := by
 refine CallA.of pg ord78 Tryz.func78 rfl Tryz.ntmps78 Tryz.results78 rfl fun h0 G0 O0 => ?_
 repeat' (first|refine Sp.h ?_|refine Lk.r rfl ?_|refine Rf.mk rfl ?_|fail)
 refine xQ (compare_p a b) ?_
 by_cases h1 : AlikeC [a, b]
 ·rw [if_pos h1]
  by_cases h2 : Ins a b
  ·by_cases h3 : Ins b a
   ·rw [if_pos ⟨h2, h3⟩]
    repeat' (first|refine Sp.h ?_|refine Lk.r rfl ?_|refine Rf.mk rfl ?_|refine xA ?_|refine xN ?_|fail)
    all_goals exact Fin.p rfl (vb (decide_eq_true (show Cont a b from ⟨h1, h2⟩)).symm)
   ·rw [if_neg (fun h => h3 h.2), if_pos h2]
    repeat' (first|refine Sp.h ?_|refine Lk.r rfl ?_|refine Rf.mk rfl ?_|refine xA ?_|refine xB ?_|refine xN ?_|fail)
    all_goals exact Fin.p rfl (vb (decide_eq_true (show Cont a b from ⟨h1, h2⟩)).symm)
  ·rw [if_neg (fun h => h2 h.1), if_neg h2]
   by_cases h3 : Ins b a
   ·rw [if_pos h3]
    repeat' (first|refine Sp.h ?_|refine Lk.r rfl ?_|refine Rf.mk rfl ?_|refine xA ?_|refine xB ?_|refine xN ?_|fail)
    all_goals exact Fin.p rfl (vb (decide_eq_false (fun h => h2 h.2)).symm)
   ·rw [if_neg h3]
    repeat' (first|refine Sp.h ?_|refine Lk.r rfl ?_|refine Rf.mk rfl ?_|refine xA ?_|refine xB ?_|refine xN ?_|fail)
    all_goals exact Fin.p rfl (vb (decide_eq_false (fun h => h2 h.2)).symm)
 ·rw [if_neg h1]
  repeat' (first|refine Sp.h ?_|refine Lk.r rfl ?_|refine Rf.mk rfl ?_|refine xB ?_|refine xN ?_|fail)
  all_goals exact Fin.p rfl (vb (decide_eq_false (fun h => h1 h.1)).symm)
def nm (e : EvS) : List Int := [e.rep, e.num]
def Dep (l : List EvS) (e : EvS) (r : Nat) (n : Int) : Prop := ∀ i : Int, 1 ≤ i → i ≤ n → ∃ x ∈ l, x.rep = r ∧ x.num = i ∧ Cont x.past e.past ∧ x.time < e.time
def Uniq (l : List EvS) : Prop := ∀ (i j : Nat) (a b : EvS), l[i]? = some a → l[j]? = some b → nm a = nm b → i = j
def n0 (l : List EvS) : Nat := (l[0]?.map fun e => e.past.length).getD 0
def ClosedE (l : List EvS) : Prop := l.length ≤ 1024 ∧ Uniq l ∧ (∀ e ∈ l, FormedE e ∧ e.past.length = n0 l) ∧ ∀ e ∈ l, ∀ (r : Nat) (n : Int), e.past[r]? = some n → Dep l e r n
noncomputable instance (l : List EvS) : Decidable (ClosedE l) := Classical.propDecidable _
def nmM (l : List EvS) : List (List Int × EvS) := l.map fun e => (nm e, e)
theorem nmM_look (l : List EvS) (k : List Int) : lookL (nmM l) k = l.find? fun e => decide (nm e = k) := lookL_map nm l k
theorem nmM_some {l : List EvS} {k : List Int} {x : EvS} (h : lookL (nmM l) k = some x) : x ∈ l ∧ nm x = k := by
 rw [nmM_look] at h
 exact ⟨List.mem_of_find?_eq_some h, by simpa using List.find?_some h⟩
theorem nmM_none {l : List EvS} {k : List Int} (h : lookL (nmM l) k = none) : ∀ x ∈ l, nm x ≠ k := by
 rw [nmM_look] at h
 intro x hx he
 have := List.find?_eq_none.1 h x hx
 simp [he] at this
theorem Uniq.eq {l : List EvS} (h : Uniq l) {a b : EvS} (ha : a ∈ l) (hb : b ∈ l) (he : nm a = nm b) : a = b := by
 obtain ⟨i, hi⟩ := List.getElem?_of_mem ha
 obtain ⟨j, hj⟩ := List.getElem?_of_mem hb
 have := h i j a b hi hj he
 subst this
 rw [hi] at hj;cases hj;rfl
set_option maxHeartbeats 4000000 in
theorem closed_p (l : List EvS) : CallP Tryz.prog 33 [evs l] (.val (.bool (decide (ClosedE l)))) := by
 refine CallA.of pg ord33 Tryz.func33 rfl Tryz.ntmps33 Tryz.results33 rfl fun h0 G0 O0 => ?_
 repeat' (first|refine Sp.h ?_|refine Lk.r rfl ?_|refine Rf.mk rfl ?_|(refine Bd.mk ?_ ?_ <;> intro _)|refine Im.mk fun _=>?_|refine xN ?_|fail)
 ·exact Fin.p rfl (vb (decide_eq_false (fun h => by have := h.1;omega)).symm)
 rename_i hll hlen
 refine MkM.r evA' ?_
 refine ⟨fun M => ?_⟩
 repeat' (first|refine Sp.h ?_|refine Lk.r rfl ?_|refine Rf.mk rfl ?_|refine Im.mk fun _=>?_|fail)
 refine CA.loop (fun i : Nat => ⟨[(0, evs l), (3, .val (.map (some M))), (19, evs l), (20, .val (.int .i64 l.length)), (21, .val (.int .i64 i))], [mapR Tryz.prog M 70 (nmM (l.take i)) evA']⟩)
  (fun i => i ≤ l.length ∧ (∀ (j k : Nat) (a b : EvS), j < i → k < i → l[j]? = some a → l[k]? = some b → nm a = nm b → j = k) ∧ ∀ e ∈ l.take i, FormedE e ∧ e.past.length = n0 l) (fun i => l.length - i) 0 xE ⟨Nat.zero_le _, fun j k a b h => by omega, by simp⟩ ?_
 ·rintro i ⟨hi, hu, hf⟩
  by_cases hin : i < l.length
  ·obtain ⟨e, he⟩ := get_of hin
   obtain ⟨d, hd⟩ := get_of (l := l) (i := 0) (by omega)
   have hmem := List.mem_of_getElem? he
   cases hlk : lookL (nmM (l.take i)) [e.rep, e.num] with
   | some x =>
    obtain ⟨hxm, hxn⟩ := nmM_some hlk
    obtain ⟨j, hj⟩ := List.getElem?_of_mem hxm
    rw [List.getElem?_take] at hj
    split at hj
    case isFalse => cases hj
    rename_i hji
    repeat' (first|refine Sp.h ?_|refine Lk.r rfl ?_|refine Rf.mk rfl ?_|refine xA ?_|refine OpK.r rfl ?_|refine All.mk fun _=>?_|refine xT ?_|refine xI ?_|refine Ch.l ⟨rfl, rfl⟩ ?_|(apply SetAsk.r;focus repeat' constructor)|refine xN ?_|refine xK ?_|(apply Kf.mk;(focus kernel_rfl))|refine xM ?_|(apply LkM.s;(focus first|assumption|rfl))|refine xD ?_|(apply Cl.p (name_p _);focus repeat' constructor))
    exact Fin.p rfl (vb (decide_eq_false (fun h => by have := h.2.1 j i x e hj he hxn;omega)).symm)
   | none =>
    have hn0 : n0 l = d.past.length := by simp [n0, hd]
    have hup : updL (nmM (l.take i)) [e.rep, e.num] e = nmM (l.take (i + 1)) := by
     rw [updL_none _ _ _ hlk, List.take_add_one, he];simp [nmM, nm]
    repeat' (first|refine Sp.h ?_|refine Lk.r rfl ?_|refine Rf.mk rfl ?_|refine xA ?_|refine xB ?_|(refine Bd.mk ?_ ?_ <;> intro _)|refine OpK.r rfl ?_|refine Im.mk fun _=>?_|refine All.mk fun _=>?_|refine xT ?_|refine xI ?_|refine Ch.l ⟨rfl, rfl⟩ ?_|(apply SetAsk.r;focus repeat' constructor)|refine xN ?_|refine xK ?_|(apply Kf.mk;(focus kernel_rfl))|refine xM ?_|refine UpV.r rfl ?_|(apply Zx.agg;(focus rfl);(focus rfl);(focus repeat constructor))|(apply LkM.n;(focus first|assumption|rfl))|refine xD ?_|refine xO ?_|(apply Cl.p (name_p _);focus repeat' constructor)|(apply Cl.p (formed_p _);focus repeat' constructor))
    ·rename_i hfe _ _ hle
     rw [hup]
     refine PA.lp (i + 1) xE ⟨⟨hin, fun j k a b hj hk h1 h2 h3 => ?_, all_succ he hf ⟨hfe, by omega⟩⟩, by omega⟩
     have hno := nmM_none hlk
     by_cases e1 : j = i
     ·subst e1
      rw [he] at h1;cases h1
      by_cases e2 : k = j
      ·exact e2.symm
      ·exact absurd h3.symm (hno b (List.mem_of_getElem? (i := k) (by rw [List.getElem?_take, if_pos (by omega)];exact h2)))
     ·by_cases e2 : k = i
      ·subst e2
       rw [he] at h2;cases h2
       exact absurd h3 (hno a (List.mem_of_getElem? (i := j) (by rw [List.getElem?_take, if_pos (by omega)];exact h1)))
      ·exact hu j k a b (by omega) (by omega) h1 h2 h3
    all_goals exact Fin.p rfl (vb (decide_eq_false (fun h => by have := h.2.2.1 e hmem;first|exact absurd this.1 (by assumption)|omega)).symm)
  ·have : i = l.length := by omega
   subst this
   rw [List.take_length] at hf
   simp only [List.take_length]
   have huq : Uniq l := fun j k a b h1 h2 h3 => hu j k a b (List.getElem?_eq_some_iff.1 h1).1 (List.getElem?_eq_some_iff.1 h2).1 h1 h2 h3
   repeat' (first|refine Sp.h ?_|refine Lk.r rfl ?_|refine Rf.mk rfl ?_|refine xB ?_|refine Im.mk fun _=>?_|fail)
   refine CA.loop (fun i : Nat => ⟨[(3, .val (.map (some M))), (54, evs l), (55, .val (.int .i64 l.length)), (56, .val (.int .i64 i))], [mapR Tryz.prog M 70 (nmM l) evA']⟩)
    (fun i => i ≤ l.length ∧ ∀ e ∈ l.take i, ∀ (r : Nat) (n : Int), e.past[r]? = some n → Dep l e r n) (fun i => l.length - i) 0 xE ⟨Nat.zero_le _, by simp⟩ ?_
   rintro i ⟨hi, hd⟩
   by_cases hin : i < l.length
   ·obtain ⟨e, he⟩ := get_of hin
    have hmem := List.mem_of_getElem? he
    have hfe := (hf e hmem).1
    have hv2 := hfe.1.2
    repeat' (first|refine Sp.h ?_|refine Lk.r rfl ?_|refine Rf.mk rfl ?_|refine xA ?_|refine Im.mk fun _=>?_|refine All.mk fun _=>?_|refine xT ?_|refine xI ?_|refine Ch.l ⟨rfl, rfl⟩ ?_|(apply SetAsk.r;focus repeat' constructor)|refine xN ?_|fail)
    rename_i b9 _
    refine CA.loop (fun r : Nat => ⟨[(3, .val (.map (some M))), (54, evs l), (55, .val (.int .i64 l.length)), (56, .val (.int .i64 i)), (9, .val (.pointer (some ⟨b9, 0, none⟩))), (61, ints e.past), (62, .val (.int .i64 e.past.length)), (63, .val (.int .i64 r))], [mapR Tryz.prog M 70 (nmM l) evA', blkR b9 40 (evC e)]⟩)
     (fun r => r ≤ e.past.length ∧ ∀ (q : Nat) (n : Int), q < r → e.past[q]? = some n → Dep l e q n) (fun r => e.past.length - r) 0 xE ⟨Nat.zero_le _, fun q n h => by omega⟩ ?_
    rintro r ⟨hr, hdr⟩
    by_cases hrn : r < e.past.length
    ·obtain ⟨n, hn⟩ := get_of hrn
     have hn2 := hfe.1.1 n (List.mem_of_getElem? hn)
     unfold rngK at hn2
     repeat' (first|refine Sp.h ?_|refine Lk.r rfl ?_|refine Rf.mk rfl ?_|refine xA ?_|refine xI ?_|fail)

     rename_i b9'
     refine CA.loop (fun j : Nat => ⟨[(3, .val (.map (some M))), (54, evs l), (55, .val (.int .i64 l.length)), (56, .val (.int .i64 i)), (9, .val (.pointer (some ⟨b9, 0, none⟩))), (61, ints e.past), (62, .val (.int .i64 e.past.length)), (63, .val (.int .i64 r)), (10, .val (.int .i64 r)), (11, .val (.int .i64 n)), (12, .val (.int .i64 (j + 1 : Int)))], [mapR Tryz.prog M 70 (nmM l) evA', blkR b9 40 (evC e)]⟩)
      (fun j => j ≤ n.toNat ∧ ∀ i : Int, 1 ≤ i → i ≤ j → ∃ x ∈ l, x.rep = r ∧ x.num = i ∧ Cont x.past e.past ∧ x.time < e.time) (fun j => n.toNat - j) 0 xE ⟨Nat.zero_le _, fun i h1 h2 => by omega⟩ ?_
     rintro j ⟨hj, hdj⟩
     by_cases hjn : (j : Int) + 1 ≤ n
     ·cases hlk : lookL (nmM l) [(r : Int), (j : Int) + 1] with
      | none =>
       have hno := nmM_none hlk
       repeat' (first|refine Sp.h ?_|refine Lk.r rfl ?_|refine Rf.mk rfl ?_|refine xA ?_|refine xB ?_|refine All.mk fun _=>?_|refine xT ?_|(apply SetAsk.r;focus repeat' constructor)|(apply Fk.r;focus repeat' first|infer_instance|constructor)|refine xN ?_|refine xK ?_|(apply Kf.mk;(focus kernel_rfl))|refine xM ?_|(apply Zx.agg;(focus rfl);(focus rfl);(focus repeat constructor))|(apply LkM.n;(focus first|assumption|rfl))|fail)
       exact Fin.p rfl (vb (decide_eq_false (fun h => by obtain ⟨x, hx, h1, h2, -⟩ := h.2.2.2 e hmem r n hn (j + 1) (by omega) hjn;exact hno x hx (by simp [nm, h1, h2]))).symm)
      | some x =>
       obtain ⟨hxm, hxn⟩ := nmM_some hlk
       have hx1 : x.rep = r ∧ x.num = (j : Int) + 1 := by simpa [nm] using hxn
       have hfn (hx : ¬ (Cont x.past e.past ∧ x.time < e.time)) : ¬ ClosedE l := fun h => by
        obtain ⟨y, hy, h1, h2, h3⟩ := h.2.2.2 e hmem r n hn (j + 1) (by omega) hjn
        rw [Uniq.eq h.2.1 hy hxm (by simp [nm, h1, h2, hx1])] at h3
        exact hx h3
       repeat' (first|refine Sp.h ?_|refine Lk.r rfl ?_|refine Rf.mk rfl ?_|refine xA ?_|refine xB ?_|(refine Bd.mk ?_ ?_ <;> intro _)|refine All.mk fun _=>?_|refine xT ?_|(apply SetAsk.r;focus repeat' constructor)|(apply Fk.r;focus repeat' first|infer_instance|constructor)|refine xN ?_|refine xK ?_|(apply Kf.mk;(focus kernel_rfl))|refine xM ?_|(apply LkM.s;(focus first|assumption|rfl))|refine xO ?_|(apply Cl.p (contained_p _ _);focus repeat' constructor))
       ·exact Fin.p rfl (vb (decide_eq_false (hfn fun h => by omega)).symm)
       ·rename_i hc ht
        refine PA.lp (j + 1) xE ⟨⟨by omega, fun i h1 h2 => ?_⟩, by omega⟩
        by_cases hij : i = j + 1
        ·exact ⟨x, hxm, hx1.1, by omega, hc, by omega⟩
        ·exact hdj i h1 (by omega)
       ·rename_i hc
        exact Fin.p rfl (vb (decide_eq_false (hfn fun h => hc h.1)).symm)
     ·repeat' (first|refine Sp.h ?_|refine Lk.r rfl ?_|refine Rf.mk rfl ?_|refine xB ?_|refine xO ?_|fail)
      refine PA.lp (r + 1) xE ⟨⟨hrn, fun q m hq hm => ?_⟩, by omega⟩
      by_cases hqr : q = r
      ·subst hqr
       rw [hn] at hm;cases hm
       exact fun i h1 h2 => hdj i h1 (by omega)
      ·exact hdr q m (by omega) hm
    ·have : r = e.past.length := by omega
     subst this
     repeat' (first|refine Sp.h ?_|refine Lk.r rfl ?_|refine Rf.mk rfl ?_|refine xB ?_|refine xO ?_|fail)
     exact PA.lp (i + 1) xE ⟨⟨hin, all_succ he hd fun r n h => hdr r n (List.getElem?_eq_some_iff.1 h).1 h⟩, by omega⟩
   ·have : i = l.length := by omega
    subst this
    rw [List.take_length] at hd
    repeat' (first|refine Sp.h ?_|refine Lk.r rfl ?_|refine Rf.mk rfl ?_|refine xB ?_|refine xN ?_|fail)
    exact Fin.p rfl (vb (decide_eq_true (show ClosedE l from ⟨by omega, huq, hf, hd⟩)).symm)
end Go.Proofs.YtajenkpjcbaadaaGreat
namespace Go.Proofs.YtajenkpjcbaadaaGreat
open Go Go.CF
set_option maxRecDepth 20000
noncomputable def cutL (l : List EvS) (c : List Int) : List EvS := l.filter fun e => decide (HasC c e.rep e.num)
theorem filter_succ {α : Type} {l : List α} {p : α → Bool} {i : Nat} {x : α} (h : l[i]? = some x) : (l.take (i + 1)).filter p = (l.take i).filter p ++ if p x then [x] else [] := by
 rw [List.take_add_one, h]
 cases hp : p x <;> simp [hp]
theorem cut_o (l : List EvS) (c : List Int) (hl : l.length ≤ 1000) : CallO Tryz.prog 15 [evs l, ints c] 40 13 (cutL l c) evC := by
 refine CallA.of pg ord15 Tryz.func15 rfl Tryz.ntmps15 Tryz.results15 rfl fun h0 G0 O0 => ?_
 repeat' (first|refine Sp.h ?_|refine Lk.r rfl ?_|refine Rf.mk rfl ?_|refine Im.mk fun _=>?_|fail)
 refine CA.nilOwn 5 40 13 evC rfl fun w2 => ?_
 refine CA.loop (fun x : Nat × Value => ⟨[(1, ints c), (8, evs l), (9, .val (.int .i64 l.length)), (10, .val (.int .i64 x.1)), (5, .ow x.2)], [arrR x.2 40 13 (cutL (l.take x.1) c) evC]⟩)
  (fun x => x.1 ≤ l.length) (fun x => l.length - x.1) (0, w2) xE (Nat.zero_le _) ?_
 rintro ⟨i, v⟩ hi
 simp only at hi
 by_cases hin : i < l.length
 ·obtain ⟨e, he⟩ := get_of hin
  have hlen : (cutL (l.take i) c).length ≤ 1000 := Nat.le_trans (List.length_filter_le _ _) (by simp;omega)
  have hs := filter_succ (p := fun e : EvS => decide (HasC c e.rep e.num)) he
  repeat' (first|refine Sp.h ?_|refine Lk.r rfl ?_|refine Rf.mk rfl ?_|refine xA ?_|(refine Bd.mk ?_ ?_ <;> intro _)|refine xP ?_|refine All.mk fun _=>?_|refine xU ?_|refine xT ?_|refine xI ?_|refine Ce.r ?_|refine Ch.l ⟨rfl, rfl⟩ ?_|(apply SetAsk.r;focus repeat' constructor)|(apply Fk.r;focus repeat' first|infer_instance|constructor)|refine xN ?_|refine Rf.mk ⟨rfl, rfl⟩ ?_|refine Rf.mk ⟨rfl, rfl, rfl⟩ ?_|(apply Mp.lit;(focus repeat (first|exact MpL.nil|(apply MpL.cons;(focus rfl))|(apply MpL.inv;(focus repeat constructor);(focus infer_instance)))))|refine xO ?_|(apply Cl.p (name_p _);focus repeat' constructor)|(apply Cl.p (hasC_p _ _ _);focus repeat' constructor))
  ·rename_i h _ v2
   rw [if_pos (decide_eq_true h)] at hs
   refine PA.lp (i + 1, v2) ⟨by (repeat first|exact trivial|refine ⟨rfl, ?_⟩), ?_⟩ ⟨hin, by simp only;omega⟩
   rw [show cutL (l.take (i + 1)) c = cutL (l.take i) c ++ [e] from hs]
   (repeat first|exact .nil|refine .cons (by repeat constructor) ?_)
  ·rename_i h
   rw [if_neg (by simp only [decide_eq_true_eq];exact h), List.append_nil] at hs
   refine PA.lp (i + 1, v) ⟨by (repeat first|exact trivial|refine ⟨rfl, ?_⟩), ?_⟩ ⟨hin, by simp only;omega⟩
   rw [show cutL (l.take (i + 1)) c = cutL (l.take i) c from hs]
   (repeat first|exact .nil|refine .cons (by repeat constructor) ?_)
 ·have : i = l.length := by omega
  subst this
  simp only [List.take_length]
  repeat' (first|refine Sp.h ?_|refine Lk.r rfl ?_|refine Rf.mk rfl ?_|refine xB ?_|refine xN ?_|fail)
  exact ⟨_, _, .one (.same (.z)), _, rfl, rfl⟩
noncomputable def clkE (n : Nat) (l : List EvS) : List Int := l.foldl (fun c e => c.set e.rep.toNat (max (c[e.rep.toNat]?.getD 0) e.num)) (List.replicate n 0)
theorem clkE_len (n : Nat) (l : List EvS) : (clkE n l).length = n := by
 unfold clkE
 have : ∀ (l : List EvS) (c : List Int), (l.foldl (fun c e => c.set e.rep.toNat (max (c[e.rep.toNat]?.getD 0) e.num)) c).length = c.length := by
  intro l
  induction l with
  | nil => intro c;rfl
  | cons a l ih => intro c;rw [List.foldl_cons, ih, List.length_set]
 rw [this, List.length_replicate]
theorem clkE_succ (n : Nat) {l : List EvS} {i : Nat} {e : EvS} (he : l[i]? = some e) {y : Int} (hy : (clkE n (l.take i))[e.rep.toNat]? = some y) : clkE n (l.take (i + 1)) = (clkE n (l.take i)).set e.rep.toNat (max y e.num) := by
 rw [List.take_add_one, he, clkE, List.foldl_append]
 change List.set _ _ (max ((clkE n (l.take i))[e.rep.toNat]?.getD 0) e.num) = _
 rw [hy]
 rfl
theorem form_rep {e : EvS} (h : FormedE e) : e.rep.toNat < e.past.length := by
 obtain ⟨x, hx, -⟩ := h.2.2.1
 exact (List.getElem?_eq_some_iff.1 hx).1
theorem clock_ok (n : Nat) (l : List EvS) (hn : 1 ≤ n ∧ n ≤ 5) (hc : ClosedE l) (hl : ∀ e ∈ l, e.past.length = n) :
  CallA Tryz.prog 37 [.val (.int .i64 n), evs l] [] fun r own => ∃ v, r = .tup [.ow v, .val (.int .i64 0)] ∧ own = [arrR v 3 1 (clkE n l) intC] := by
 refine CallA.of pg ord37 Tryz.func37 rfl Tryz.ntmps37 Tryz.results37 rfl fun h0 G0 O0 => ?_
 have hz := zero_ok n (by omega)
 repeat' (first|refine Sp.h ?_|refine Lk.r rfl ?_|refine Rf.mk rfl ?_|fail)
 (refine Cl.use (hz) (by repeat' (first|exact Lend.nil|apply Lend.keep|fail)) .nil rfl ?_;rintro _ _ ⟨_, rfl, rfl⟩)
 repeat' (first|refine Sp.h ?_|refine Lk.r rfl ?_|refine Rf.mk rfl ?_|refine xA ?_|refine xB ?_|(refine Bd.mk ?_ ?_ <;> intro _)|refine Im.mk fun _=>?_|refine All.mk fun _=>?_|refine xU ?_|refine xN ?_|(apply Cl.p (closed_p _);focus repeat' constructor))
 ·rename_i h1 h2
  rw [h1 (by rw [Int.toNat_natCast, Ne, List.replicate_eq_nil_iff];omega)] at h2
  cases h2
 rename_i w _ _ _ _
 refine CA.loop (fun i : Nat => ⟨[(0, .val (.int .i64 n)), (18, evs l), (19, .val (.int .i64 l.length)), (20, .val (.int .i64 i)), (6, .ow w)], [arrR w 3 1 (clkE n (l.take i)) intC]⟩)
  (fun i => i ≤ l.length) (fun i => l.length - i) 0 xE (Nat.zero_le _) ?_
 intro i hi
 by_cases hin : i < l.length
 ·obtain ⟨e, he⟩ := get_of hin
  have hfe := (hc.2.2.1 e (List.mem_of_getElem? he)).1
  have hpl := hl e (List.mem_of_getElem? he)
  have hrp := form_rep hfe
  obtain ⟨y, hy⟩ := get_of (l := clkE n (l.take i)) (i := e.rep.toNat) (by rw [clkE_len];omega)
  have hs := clkE_succ n he hy
  have hr0 : 0 ≤ e.rep := hfe.2.1
  repeat' (first|refine Sp.h ?_|refine Lk.r rfl ?_|refine Rf.mk rfl ?_|refine xA ?_|refine OpK.r rfl ?_|refine Im.mk fun _=>?_|refine All.mk fun _=>?_|refine xU ?_|refine xT ?_|refine xI ?_|(apply Ix.r;(focus assumption);(focus omega))|refine xJ ?_|refine Ch.l ⟨rfl, rfl⟩ ?_|refine xV ?_|(apply SetAsk.r;focus repeat' constructor)|refine xN ?_|refine Up.r rfl ?_|refine xD ?_|refine xO ?_|fail)
  rw [← hs]
  exact PA.lp (i + 1) xE ⟨hin, by omega⟩
 ·have : i = l.length := by omega
  subst this
  simp only [List.take_length]
  repeat' (first|refine Sp.h ?_|refine Lk.r rfl ?_|refine Rf.mk rfl ?_|refine xB ?_|refine xN ?_|fail)
  exact ⟨_, _, .one (.same (.z)), _, rfl, rfl⟩
end Go.Proofs.YtajenkpjcbaadaaGreat
namespace Go.Proofs.YtajenkpjcbaadaaGreat
open Go Go.CF
set_option maxRecDepth 20000
theorem zer4 (a b c d : Int) : [a, b, c, d] = [0, 0, 0, 0] ↔ a = 0 ∧ b = 0 ∧ c = 0 ∧ d = 0 := by simp
theorem kindOK_num (e : EvS) : KindOK e ↔
  (e.kind = 0 ∧ 0 ≤ e.action ∧ e.action ≤ 255 ∧ 0 ≤ e.place ∧ e.place ≤ 1024 ∧ 1 ≤ e.serial ∧ e.serial ≤ 1048576 ∧ e.gk = 0 ∧ e.gi = 0 ∧ e.ge = 0 ∧ e.ga = 0 ∧ e.to = 0) ∨
  (e.kind = 1 ∧ ((e.gk = 0 ∧ e.ge = 0) ∨ (e.gk = 1 ∧ 0 ≤ e.ge ∧ e.ge ≤ 5)) ∧ 0 ≤ e.gi ∧ e.gi ≤ 1023 ∧ 1 ≤ e.ga ∧ e.ga ≤ 1000000 ∧ 0 ≤ e.to ∧ e.to ≤ e.past.length - 1 ∧ e.to ≠ e.rep ∧ e.action = 0 ∧ e.place = 0 ∧ e.serial = 0) ∨
  (e.kind = 2 ∧ 1 ≤ e.place ∧ e.place ≤ 1024 ∧ 1 ≤ e.serial ∧ e.serial ≤ 1048576 ∧ e.action = 0 ∧ e.gk = 0 ∧ e.gi = 0 ∧ e.ge = 0 ∧ e.ga = 0 ∧ e.to = 0) := by
 unfold KindOK
 refine or_congr ?_ (or_congr (and_congr_right fun _ => ?_) ?_)
 ·unfold Sub0 GiveZ Btw;simp only [and_assoc]
 ·unfold Sub1 Btw
  by_cases h : e.gk = 1
  ·rw [if_pos h];omega
  ·rw [if_neg h];omega
 ·unfold Sub2 GiveZ Btw;simp only [and_assoc]
set_option maxHeartbeats 8000000 in
theorem formedR_p (e : EvS) : CallP Tryz.prog 67 [evA' e] (.val (.bool (decide (FormedE e)))) := by
 refine CallA.of pg ord67 Tryz.func67 rfl Tryz.ntmps67 Tryz.results67 rfl fun h0 G0 O0 => ?_
 by_cases hv : ValC e.past
 ·have hv2 := hv.2
  by_cases hr : 0 ≤ e.rep ∧ e.rep < e.past.length
  ·obtain ⟨x, hx⟩ := get_of (l := e.past) (i := e.rep.toNat) (by omega)
   have hx2 := hv.1 x (List.mem_of_getElem? hx)
   unfold rngK at hx2
   have hr1 := hr.1
   have hr2 := hr.2
   by_cases hb : e.num = x + 1 ∧ e.num ≤ 1024 ∧ Btw e.time 1 1073741824
   ·have hF : FormedE e ↔ KindOK e := ⟨fun h => h.2.2.2.2.2, fun h => ⟨hv, hr.1, ⟨x, hx, hb.1⟩, hb.2.1, hb.2.2, h⟩⟩
    obtain ⟨hb1, hb2, hb3, hb4⟩ := hb
    repeat' (first|refine Sp.h ?_|refine Lk.r rfl ?_|refine Rf.mk rfl ?_|refine xA ?_|refine xB ?_|(refine Bd.mk ?_ ?_ <;> intro _)|refine OpK.r rfl ?_|refine Im.mk fun _=>?_|refine All.mk fun _=>?_|refine xT ?_|(apply Ix.r;(focus assumption);(focus omega))|refine Ch.r ?_|(apply SetAsk.r;focus repeat' constructor)|(apply Fk.r;focus repeat' first|infer_instance|constructor)|refine xN ?_|refine xK ?_|(apply Kf.mk;(focus kernel_rfl))|refine xD ?_|refine xO ?_|(apply Cl.p (validR_p _);focus repeat' constructor))
    all_goals try simp only [zer4] at *
    all_goals refine Fin.p rfl (vb ?_)
    all_goals first|refine decide_eq_decide.2 (Iff.trans ?_ hF.symm)|refine (decide_eq_true (hF.2 ?_)).symm|refine (decide_eq_false (fun h => (?_ : ¬ KindOK e) (hF.1 h))).symm
    all_goals rw [kindOK_num];omega
   ·unfold Btw at hb
    repeat' (first|refine Sp.h ?_|refine Lk.r rfl ?_|refine Rf.mk rfl ?_|refine xA ?_|refine xB ?_|(refine Bd.mk ?_ ?_ <;> intro _)|refine OpK.r rfl ?_|refine Im.mk fun _=>?_|refine All.mk fun _=>?_|refine xT ?_|(apply Ix.r;(focus assumption);(focus omega))|refine xN ?_|refine xD ?_|refine xO ?_|(apply Cl.p (validR_p _);focus repeat' constructor))
    all_goals exact Fin.p rfl (vb (decide_eq_false (fun ⟨h1, h2, ⟨y, hy, h3⟩, h4, ⟨h5, h6⟩, _⟩ => by rw [hx] at hy;cases hy;omega)).symm)
  ·repeat' (first|refine Sp.h ?_|refine Lk.r rfl ?_|refine Rf.mk rfl ?_|refine xA ?_|refine xB ?_|(refine Bd.mk ?_ ?_ <;> intro _)|refine OpK.r rfl ?_|refine Im.mk fun _=>?_|refine All.mk fun _=>?_|refine xT ?_|refine xN ?_|refine xD ?_|(apply Cl.p (validR_p _);focus repeat' constructor))
   all_goals exact Fin.p rfl (vb (decide_eq_false (fun ⟨h1, h2, ⟨y, hy, h3⟩, _⟩ => by have := (List.getElem?_eq_some_iff.1 hy).1;omega)).symm)
 ·repeat' (first|refine Sp.h ?_|refine Lk.r rfl ?_|refine Rf.mk rfl ?_|refine xB ?_|refine OpK.r rfl ?_|refine All.mk fun _=>?_|refine xT ?_|refine xN ?_|refine xD ?_|(apply Cl.p (validR_p _);focus repeat' constructor))
  all_goals exact Fin.p rfl (vb (decide_eq_false (fun h => hv h.1)).symm)
end Go.Proofs.YtajenkpjcbaadaaGreat
namespace Go.Proofs.YtajenkpjcbaadaaGreat
open Go Go.CF
set_option maxRecDepth 20000
theorem valid13_c (m : ModS) (hol : m.ops.length ≤ 1000000000) : CallF Tryz.prog 76 [mdl m] (LayOK m.sorts m.tables) := by
 refine CallA.of pg ord76 Tryz.func76 rfl Tryz.ntmps76 Tryz.results76 rfl fun h0 G0 O0 => ?_
 repeat' (first|refine Sp.h ?_|refine Lk.r rfl ?_|refine Rf.mk rfl ?_|refine All.mk fun _=>?_|refine xT ?_|fail)
 refine xW (valid9_c m.sorts m.tables) ?_
 rintro _ _ ⟨b, rfl, rfl, hv⟩
 cases b
 ·repeat' (first|refine Sp.h ?_|refine Lk.r rfl ?_|refine Rf.mk rfl ?_|refine xB ?_|refine xN ?_|fail)
  exact ⟨_, _, .one (.same (.z)), _, rfl, rfl, fun h => by cases h⟩
 have hm := hv rfl
 repeat' (first|refine Sp.h ?_|refine Lk.r rfl ?_|refine Rf.mk rfl ?_|refine xA ?_|refine xB ?_|(refine Bd.mk ?_ ?_ <;> intro _)|refine Im.mk fun _=>?_|refine xT ?_|refine xN ?_|fail)
 all_goals try exact ⟨_, _, .one (.same (.z)), _, rfl, rfl, fun h => by cases h⟩
 refine xW (distinct_c m.families) ?_
 rintro _ _ ⟨b, rfl, rfl⟩
 cases b
 ·repeat' (first|refine Sp.h ?_|refine Lk.r rfl ?_|refine Rf.mk rfl ?_|refine xB ?_|refine xN ?_|fail)
  exact ⟨_, _, .one (.same (.z)), _, rfl, rfl, fun h => by cases h⟩
 repeat' (first|refine Sp.h ?_|refine Lk.r rfl ?_|refine Rf.mk rfl ?_|refine xA ?_|refine xB ?_|refine xT ?_|refine Ch.l ⟨rfl, rfl⟩ ?_|fail)
 refine xW (constraints_c m hm) ?_
 rintro _ _ ⟨b, rfl, rfl⟩
 cases b
 ·repeat' (first|refine Sp.h ?_|refine Lk.r rfl ?_|refine xN ?_|fail)
  exact ⟨_, _, .one (.same (.z)), _, rfl, rfl, fun h => by cases h⟩
 repeat' (first|refine Sp.h ?_|refine Lk.r rfl ?_|refine Rf.mk rfl ?_|refine xT ?_|refine Ch.l ⟨rfl, rfl⟩ ?_|fail)
 refine xW (actions_c m hol) ?_
 rintro _ _ ⟨b, rfl, rfl⟩
 cases b
 ·repeat' (first|refine Sp.h ?_|refine Lk.r rfl ?_|refine xN ?_|fail)
  exact ⟨_, _, .one (.same (.z)), _, rfl, rfl, fun h => by cases h⟩
 repeat' (first|refine Sp.h ?_|refine Lk.r rfl ?_|refine Rf.mk rfl ?_|refine xT ?_|refine Ch.l ⟨rfl, rfl⟩ ?_|fail)
 refine xW (hidden_c m hm) ?_
 rintro _ _ ⟨b, rfl, rfl⟩
 repeat' (first|refine Sp.h ?_|refine Lk.r rfl ?_|refine xN ?_|fail)
 exact ⟨_, _, .one (.same (.z)), _, rfl, rfl, fun _ => hm⟩
theorem isStrict32_p (k : Int) : CallP Tryz.prog 79 [it k] (.val (.bool (decide (isStrict k)))) := by
 refine CallA.of pg ord79 Tryz.func79 rfl Tryz.ntmps79 Tryz.results79 rfl fun h0 G0 O0 => ?_
 repeat' (first|refine Sp.h ?_|refine Lk.r rfl ?_|refine Rf.mk rfl ?_|refine xA ?_|refine xB ?_|(refine Bd.mk ?_ ?_ <;> intro _)|refine xN ?_|fail)
 all_goals refine Fin.p rfl (vb ?_)
 all_goals first
  | exact decide_eq_decide.2 (by unfold isStrict;omega)
  | exact (decide_eq_true (by unfold isStrict;omega)).symm
theorem prod_fit {sizes cols : List Int} (h : ColOK sizes cols) (i : Nat) : 1 ≤ prodF sizes (cols.take i) ∧ prodF sizes (cols.take i) ≤ 216 := by
 have hp := prod_le h.2.1 (cols.take i)
 have h216 : ∀ n : Nat, n ≤ 3 → (6 : Int) ^ n ≤ 216 := fun n hn => by match n, hn with | 0, _ => decide | 1, _ => decide | 2, _ => decide | 3, _ => decide
 have := h216 _ (show (cols.take i).length ≤ 3 by rw [List.length_take];have := h.1;omega)
 omega
theorem prod_fit' {sizes cols : List Int} (h : ColOK sizes cols) : 1 ≤ prodF sizes cols ∧ prodF sizes cols ≤ 216 := by
 have := prod_fit h cols.length
 rwa [List.take_length] at this
theorem size32_p (m : ModS) (t : TblS) (h : ColOK m.sorts t.cols) : CallP Tryz.prog 80 [mdl m, .agg (tblC t)] (it (prodF m.sorts t.cols)) := by
 refine CallA.of pg ord80 Tryz.func80 rfl Tryz.ntmps80 Tryz.results80 rfl fun h0 G0 O0 => ?_
 repeat' (first|refine Sp.h ?_|refine Lk.r rfl ?_|refine Rf.mk rfl ?_|refine All.mk fun _=>?_|fail)
 rename_i b2 b3
 refine CA.loop (fun i : Nat => ⟨[(2, pm b2), (3, pm b3), (5, it (prodF m.sorts (t.cols.take i))), (6, it i)], [blkR b3 94 (tblC t), mR b2 m]⟩) (fun i => i ≤ t.cols.length) (fun i => t.cols.length - i) 0 xE (Nat.zero_le _) ?_
 intro i hi
 by_cases hin : i < t.cols.length
 ·obtain ⟨x, hx⟩ := get_of hin
  obtain ⟨j, rfl, y, hy, hy1, hy2⟩ := col_get h hx
  have hb := prod_succ hx (show m.sorts[((j : Int)).toNat]? = some y by simpa using hy)
  have hp := prod_fit h i
  have hp2 := prod_fit h (i + 1)
  rw [hb] at hp2
  have hj := (List.getElem?_eq_some_iff.1 hy).1
  repeat' (first|refine Sp.h ?_|refine Lk.r rfl ?_|refine Rf.mk rfl ?_|refine xA ?_|refine xB ?_|refine OpK.r rfl ?_|refine xP ?_|refine Im.mk fun _=>?_|refine xT ?_|refine xI ?_|refine xD ?_|refine xO ?_|fail)
  rw [← hb]
  exact PA.lp (i + 1) xE ⟨hin, by omega⟩
 ·have : i = t.cols.length := by omega
  subst this
  simp only [List.take_length]
  repeat' (first|refine Sp.h ?_|refine Lk.r rfl ?_|refine Rf.mk rfl ?_|refine xB ?_|refine Im.mk fun _=>?_|refine xT ?_|refine xN ?_|fail)
  exact Fin.p rfl rfl
end Go.Proofs.YtajenkpjcbaadaaGreat
namespace Go.Proofs.YtajenkpjcbaadaaGreat
open Go Go.CF
set_option maxRecDepth 20000
def szF (m : ModS) (t : TblS) : Nat := (prodF m.sorts t.cols).toNat
noncomputable def strN (m : ModS) (l : List TblS) : Nat := (l.map fun t => if isStrict t.kind then szF m t else 0).sum
noncomputable def mrgL (m : ModS) (l : List TblS) : List TblS := l.flatMap fun t => if isStrict t.kind then [] else List.replicate (szF m t) t
noncomputable def strF (m : ModS) : Nat := strN m m.tables
noncomputable def mrgF (m : ModS) : List TblS := mrgL m m.tables
theorem sz_fit {m : ModS} {t : TblS} (h : ColOK m.sorts t.cols) : (prodF m.sorts t.cols = (szF m t : Nat)) ∧ szF m t ≤ 216 ∧ 1 ≤ szF m t := by
 have := prod_fit' h
 unfold szF
 omega
theorem strN_succ {m : ModS} {l : List TblS} {i : Nat} {t : TblS} (h : l[i]? = some t) : strN m (l.take (i + 1)) = strN m (l.take i) + if isStrict t.kind then szF m t else 0 := by
 unfold strN;rw [List.take_add_one, h];simp
theorem mrgL_succ {m : ModS} {l : List TblS} {i : Nat} {t : TblS} (h : l[i]? = some t) : mrgL m (l.take (i + 1)) = mrgL m (l.take i) ++ if isStrict t.kind then [] else List.replicate (szF m t) t := by
 unfold mrgL;rw [List.take_add_one, h];simp
theorem strN_le {m : ModS} (hm : LayOK m.sorts m.tables) : ∀ i, i ≤ m.tables.length → strN m (m.tables.take i) ≤ 216 * i := by
 intro i
 induction i with
 | zero => simp [strN]
 | succ i ih =>
  intro hi
  obtain ⟨t, ht⟩ := get_of (l := m.tables) (i := i) (by omega)
  have h1 := sz_fit (m := m) (hm.2.2.2 t (List.mem_of_getElem? ht)).1
  have := ih (by omega)
  rw [strN_succ ht]
  split <;> omega
theorem mrgL_le {m : ModS} (hm : LayOK m.sorts m.tables) : ∀ i, i ≤ m.tables.length → (mrgL m (m.tables.take i)).length ≤ 216 * i := by
 intro i
 induction i with
 | zero => simp [mrgL]
 | succ i ih =>
  intro hi
  obtain ⟨t, ht⟩ := get_of (l := m.tables) (i := i) (by omega)
  have h1 := sz_fit (m := m) (hm.2.2.2 t (List.mem_of_getElem? ht)).1
  have := ih (by omega)
  rw [mrgL_succ ht]
  split <;> simp <;> omega
theorem strict32_p (m : ModS) (hm : LayOK m.sorts m.tables) : CallP Tryz.prog 34 [mdl m] (it (strF m : Nat)) := by
 have hml := hm.2.2.1
 refine CallA.of pg ord34 Tryz.func34 rfl Tryz.ntmps34 Tryz.results34 rfl fun h0 G0 O0 => ?_
 repeat' (first|refine Sp.h ?_|refine Lk.r rfl ?_|refine Rf.mk rfl ?_|refine All.mk fun _=>?_|fail)
 rename_i b1
 refine CA.loop (fun i : Nat => ⟨[(1, pm b1), (3, it (strN m (m.tables.take i) : Nat)), (4, it i)], [mR b1 m]⟩) (fun i => i ≤ m.tables.length) (fun i => m.tables.length - i) 0 xE (Nat.zero_le _) ?_
 intro i hi
 by_cases hin : i < m.tables.length
 ·obtain ⟨t, ht⟩ := get_of hin
  have hc := (hm.2.2.2 t (List.mem_of_getElem? ht)).1
  have h1 := sz_fit (m := m) hc
  have hs := size32_p m t hc
  have hn := strN_le hm i hi
  have hsu := strN_succ (m := m) ht
  rw [h1.1] at hs
  by_cases hst : isStrict t.kind
  ·rw [if_pos hst] at hsu
   repeat' (first|refine Sp.h ?_|refine Lk.r rfl ?_|refine Rf.mk rfl ?_|refine xA ?_|refine OpK.r rfl ?_|refine Im.mk fun _=>?_|refine xT ?_|refine xI ?_|refine Ch.l ⟨rfl, rfl⟩ ?_|refine xD ?_|refine xO ?_|(apply Cl.p (isStrict32_p _);focus repeat' constructor)|(apply Cl.p (hs);focus repeat' constructor))
   rw [show ((strN m (m.tables.take i) : Nat) : Int) + (szF m t : Nat) = (strN m (m.tables.take (i + 1)) : Nat) by omega]
   exact PA.lp (i + 1) xE ⟨hin, by omega⟩
  ·rw [if_neg hst] at hsu
   repeat' (first|refine Sp.h ?_|refine Lk.r rfl ?_|refine Rf.mk rfl ?_|refine xA ?_|refine xB ?_|refine Im.mk fun _=>?_|refine xT ?_|refine xI ?_|refine xO ?_|(apply Cl.p (isStrict32_p _);focus repeat' constructor)|(apply Cl.p (hs);focus repeat' constructor))
   rw [show strN m (m.tables.take i) = strN m (m.tables.take (i + 1)) by omega]
   exact PA.lp (i + 1) xE ⟨hin, by omega⟩
 ·have : i = m.tables.length := by omega
  subst this
  simp only [List.take_length]
  repeat' (first|refine Sp.h ?_|refine Lk.r rfl ?_|refine Rf.mk rfl ?_|refine xB ?_|refine Im.mk fun _=>?_|refine xT ?_|refine xN ?_|fail)
  exact Fin.p rfl rfl
theorem merged32_o (m : ModS) (hm : LayOK m.sorts m.tables) : CallO Tryz.prog 36 [mdl m] 94 6 (mrgF m) tblC := by
 have hml := hm.2.2.1
 refine CallA.of pg ord36 Tryz.func36 rfl Tryz.ntmps36 Tryz.results36 rfl fun h0 G0 O0 => ?_
 repeat' (first|refine Sp.h ?_|refine Lk.r rfl ?_|refine Rf.mk rfl ?_|refine All.mk fun _=>?_|(apply Fk.r;focus repeat' first|infer_instance|constructor)|refine Rf.mk ⟨rfl, rfl, rfl⟩ ?_|fail)
 rename_i b1 v
 apply CA.retype (m := ([] : List TblS)) (g := tblC)
 focus (repeat constructor)
 focus rfl
 refine CA.loop (fun x : Nat × Value => ⟨[(1, pm b1), (3, .ow x.2), (4, it x.1)], [mR b1 m, arrR x.2 94 6 (mrgL m (m.tables.take x.1)) tblC]⟩) (fun x => x.1 ≤ m.tables.length) (fun x => m.tables.length - x.1) (0, v) xE (Nat.zero_le _) ?_
 rintro ⟨i, v⟩ hi
 simp only at hi
 simp only
 by_cases hin : i < m.tables.length
 ·obtain ⟨t, ht⟩ := get_of hin
  have hc := (hm.2.2.2 t (List.mem_of_getElem? ht)).1
  have h1 := sz_fit (m := m) hc
  have hs := size32_p m t hc
  have hn := mrgL_le hm i hi
  have hsu := mrgL_succ (m := m) ht
  rw [h1.1] at hs
  repeat' (first|refine Sp.h ?_|refine Lk.r rfl ?_|refine Rf.mk rfl ?_|refine xA ?_|refine Im.mk fun _=>?_|refine xT ?_|fail)
  refine CA.loop (fun x : Nat × Value => ⟨[(1, pm b1), (3, .ow x.2), (4, it i), (5, it x.1)], [mR b1 m, arrR x.2 94 6 (mrgL m (m.tables.take i) ++ List.replicate x.1 t) tblC]⟩) (fun x => x.1 ≤ szF m t ∧ (isStrict t.kind → x.1 = 0)) (fun x => szF m t - x.1) (0, v) ?_ ⟨Nat.zero_le _, fun _ => rfl⟩ ?_
  ·simp only [List.replicate_zero, List.append_nil]
   exact xE
  rintro ⟨k, v⟩ ⟨hk, hk0⟩
  simp only at hk hk0
  simp only
  by_cases hst : isStrict t.kind
  ·have hk0 := hk0 hst
   subst hk0
   rw [if_pos hst, List.append_nil] at hsu
   simp only [List.replicate_zero, List.append_nil]
   repeat' (first|refine Sp.h ?_|refine Lk.r rfl ?_|refine Rf.mk rfl ?_|refine xA ?_|refine OpK.r rfl ?_|refine xT ?_|refine xI ?_|refine Ch.l ⟨rfl, rfl⟩ ?_|refine xD ?_|refine xO ?_|(apply Cl.p (isStrict32_p _);focus repeat' constructor)|(apply Cl.p (hs);focus repeat' constructor))
   rw [← hsu]
   exact PA.lp (i + 1, v) xE ⟨hin, by simp only;omega⟩
  ·rw [if_neg hst] at hsu
   by_cases hkn : k < szF m t
   ·repeat' (first|refine Sp.h ?_|refine Lk.r rfl ?_|refine Rf.mk rfl ?_|refine xA ?_|refine xB ?_|refine OpK.r rfl ?_|refine xP ?_|refine All.mk fun _=>?_|refine xU ?_|refine xT ?_|refine xI ?_|refine Ce.r ?_|refine Ch.l ⟨rfl, rfl⟩ ?_|(apply Fk.r;focus repeat' first|infer_instance|constructor)|refine Rf.mk ⟨rfl, rfl⟩ ?_|refine Rf.mk ⟨rfl, rfl, rfl⟩ ?_|(apply Mp.lit;(focus repeat (first|exact MpL.nil|(apply MpL.cons;(focus rfl))|(apply MpL.inv;(focus repeat constructor);(focus infer_instance)))))|refine xD ?_|refine xO ?_|(apply Cl.p (isStrict32_p _);focus repeat' constructor)|(apply Cl.p (hs);focus repeat' constructor))
    rw [List.append_assoc, show List.replicate k t ++ [t] = List.replicate (k + 1) t from List.replicate_succ'.symm]
    exact PA.lp (k + 1, _) xE ⟨⟨hkn, fun h => absurd h hst⟩, by simp only;omega⟩
   ·have hke : k = szF m t := by omega
    subst hke
    rw [← hsu]
    repeat' (first|refine Sp.h ?_|refine Lk.r rfl ?_|refine Rf.mk rfl ?_|refine xB ?_|refine OpK.r rfl ?_|refine xT ?_|refine xI ?_|refine Ch.l ⟨rfl, rfl⟩ ?_|refine xD ?_|refine xO ?_|(apply Cl.p (isStrict32_p _);focus repeat' constructor)|(apply Cl.p (hs);focus repeat' constructor))
    exact PA.lp (i + 1, v) xE ⟨hin, by simp only;omega⟩
 ·have : i = m.tables.length := by omega
  subst this
  simp only [List.take_length]
  repeat' (first|refine Sp.h ?_|refine Lk.r rfl ?_|refine Rf.mk rfl ?_|refine xB ?_|refine Im.mk fun _=>?_|refine xT ?_|refine xN ?_|fail)
  exact ⟨_, _, .one (.same (.z)), _, rfl, rfl⟩
theorem mrgF_le {m : ModS} (hm : LayOK m.sorts m.tables) : (mrgF m).length ≤ 2592 := by
 have := mrgL_le hm m.tables.length (Nat.le_refl _)
 rw [List.take_length] at this
 have := hm.2.2.1
 unfold mrgF
 omega
theorem merged32_p (m : ModS) (hm : LayOK m.sorts m.tables) : CallP Tryz.prog 36 [mdl m] (tbls (mrgF m)) :=
 CallA.fz (by have := mrgF_le hm;omega) (merged32_o m hm)
end Go.Proofs.YtajenkpjcbaadaaGreat
namespace Go.Proofs.YtajenkpjcbaadaaGreat
open Go Go.CF
set_option maxRecDepth 20000
def FewV (l : List EvS) : Prop := l.length ≤ 60 ∧ ∀ e ∈ l, e.past.length ≤ 8
structure EffOK (m : ModS) (x : EffS) : Prop where
 dl : x.delta.length ≤ 20
 hl : x.hold.length ≤ 8
 ul : x.updates.length ≤ 20
 d : ∀ p ∈ x.delta, 0 ≤ p.1 ∧ p.1 < (strF m : Nat)
 u : ∀ p ∈ x.updates, 0 ≤ p.2.1 ∧ p.2.1 < ((mrgF m).length : Nat)
structure MOK (m : ModS) : Prop where
 lay : LayOK m.sorts m.tables
 ops : m.ops.length ≤ 8
 acts : m.acts.length ≤ 30
 eff : ∀ a ∈ m.acts, EffOK m a.eff
 str : strF m ≤ 40
 mrg : (mrgF m).length ≤ 20
set_option maxHeartbeats 8000000 in
theorem few32_c (m : ModS) (l : List EvS) : CallF Tryz.prog 32 [mdl m, evs l] (MOK m ∧ FewV l) := by
 refine CallA.of pg ord32 Tryz.func32 rfl Tryz.ntmps32 Tryz.results32 rfl fun h0 G0 O0 => ?_
 by_cases hol : ¬ m.ops.length ≤ 8
 ·repeat' (first|refine Sp.h ?_|refine Lk.r rfl ?_|refine Rf.mk rfl ?_|refine xA ?_|refine xB ?_|(refine Bd.mk ?_ ?_ <;> intro _)|refine Im.mk fun _=>?_|refine All.mk fun _=>?_|refine xT ?_|refine xN ?_|fail)
  all_goals first
   | exact ⟨_, _, .one (.same (.z)), _, rfl, rfl, fun h => by cases h⟩
   | exact (hol (by omega)).elim
 have hol : m.ops.length ≤ 8 := Classical.not_not.1 hol
 repeat' (first|refine Sp.h ?_|refine Lk.r rfl ?_|refine Rf.mk rfl ?_|refine xA ?_|refine xB ?_|(refine Bd.mk ?_ ?_ <;> intro _)|refine Im.mk fun _=>?_|refine All.mk fun _=>?_|refine xT ?_|refine Ch.l ⟨rfl, rfl⟩ ?_|refine xN ?_|fail)
 all_goals try exact ⟨_, _, .one (.same (.z)), _, rfl, rfl, fun h => by cases h⟩
 have hvc := valid13_c m (by omega)
 refine xW (hvc) ?_
 rintro _ _ ⟨b, rfl, rfl, hv⟩
 cases b
 ·repeat' (first|refine Sp.h ?_|refine Lk.r rfl ?_|refine Rf.mk rfl ?_|refine xB ?_|refine xN ?_|fail)
  exact ⟨_, _, .one (.same (.z)), _, rfl, rfl, fun h => by cases h⟩
 have hm := hv rfl
 have hst := strict32_p m hm
 have hmg := merged32_p m hm
 have hml := mrgF_le hm
 repeat' (first|refine Sp.h ?_|refine Lk.r rfl ?_|refine Rf.mk rfl ?_|refine xA ?_|refine xB ?_|fail)
 rename_i b2 _ _ _ _ _ _ _ _ _ _ _
 have hac : m.acts.length ≤ 30 := by omega
 have hll : l.length ≤ 60 := by omega
 refine CA.loop (fun i : Nat => ⟨[(1, evs l), (2, pm b2), (5, it i)], [mR b2 m]⟩) (fun i => i ≤ m.sorts.length) (fun i => m.sorts.length - i) 0 xE (Nat.zero_le _) ?_
 intro i hi
 by_cases hin : i < m.sorts.length
 ·obtain ⟨x, hx⟩ := get_of hin
  repeat' (first|refine Sp.h ?_|refine Lk.r rfl ?_|refine Rf.mk rfl ?_|refine xA ?_|refine xB ?_|(refine Bd.mk ?_ ?_ <;> intro _)|refine Im.mk fun _=>?_|refine xT ?_|refine xI ?_|refine xN ?_|refine xO ?_|fail)
  all_goals first
   | exact ⟨_, _, .one (.same (.z)), _, rfl, rfl, fun h => by cases h⟩
   | exact PA.lp (i + 1) xE ⟨hin, by omega⟩

 repeat' (first|refine Sp.h ?_|refine Lk.r rfl ?_|refine Rf.mk rfl ?_|refine xB ?_|refine Im.mk fun _=>?_|refine xT ?_|fail)
 refine CA.loop (fun i : Nat => ⟨[(1, evs l), (2, pm b2), (6, it i)], [mR b2 m]⟩) (fun i => i ≤ m.tables.length) (fun i => m.tables.length - i) 0 xE (Nat.zero_le _) ?_
 intro i hi
 by_cases hin : i < m.tables.length
 ·obtain ⟨x, hx⟩ := get_of hin
  repeat' (first|refine Sp.h ?_|refine Lk.r rfl ?_|refine Rf.mk rfl ?_|refine xA ?_|refine xB ?_|(refine Bd.mk ?_ ?_ <;> intro _)|refine OpK.r rfl ?_|refine Im.mk fun _=>?_|refine xT ?_|refine xI ?_|refine xN ?_|refine xD ?_|refine xO ?_|fail)
  all_goals first
   | exact ⟨_, _, .one (.same (.z)), _, rfl, rfl, fun h => by cases h⟩
   | exact PA.lp (i + 1) xE ⟨hin, by omega⟩

 repeat' (first|refine Sp.h ?_|refine Lk.r rfl ?_|refine Rf.mk rfl ?_|refine xB ?_|refine OpK.r rfl ?_|refine Im.mk fun _=>?_|refine xT ?_|refine Ch.l ⟨rfl, rfl⟩ ?_|refine xD ?_|(apply Cl.p (hst);focus repeat' constructor)|(apply Cl.p (hmg);focus repeat' constructor))
 refine CA.loop (fun i : Nat => ⟨[(1, evs l), (2, pm b2), (7, it (strF m : Nat)), (8, it ((mrgF m).length : Nat)), (9, it i)], [mR b2 m]⟩) (fun i => i ≤ m.acts.length ∧ ∀ a ∈ m.acts.take i, EffOK m a.eff) (fun i => m.acts.length - i) 0 xE ⟨Nat.zero_le _, by simp⟩ ?_
 rintro i ⟨hi, hae⟩
 by_cases hin : i < m.acts.length
 ·obtain ⟨a, ha⟩ := get_of hin
  by_cases hsz : a.eff.delta.length ≤ 20 ∧ a.eff.hold.length ≤ 8 ∧ a.eff.updates.length ≤ 20
  ·obtain ⟨hs1, hs2, hs3⟩ := hsz
   repeat' (first|refine Sp.h ?_|refine Lk.r rfl ?_|refine Rf.mk rfl ?_|refine xA ?_|refine xB ?_|refine Im.mk fun _=>?_|refine All.mk fun _=>?_|refine xT ?_|refine xI ?_|refine Ch.r ?_|(apply SetAsk.r;focus repeat' constructor)|refine xN ?_|fail)
   rename_i b10 _ _ _
   refine CA.loop (fun k : Nat => ⟨[(1, evs l), (2, pm b2), (7, it (strF m : Nat)), (8, it ((mrgF m).length : Nat)), (9, it i), (10, pm b10), (11, it k)], [mR b2 m, blkR b10 84 (effC a.eff)]⟩) (fun k => k ≤ a.eff.delta.length ∧ ∀ p ∈ a.eff.delta.take k, 0 ≤ p.1 ∧ p.1 < (strF m : Nat)) (fun k => a.eff.delta.length - k) 0 xE ⟨Nat.zero_le _, by simp⟩ ?_
   rintro k ⟨hk, hks⟩
   by_cases hkn : k < a.eff.delta.length
   ·obtain ⟨p, hp⟩ := get_of hkn
    repeat' (first|refine Sp.h ?_|refine Lk.r rfl ?_|refine Rf.mk rfl ?_|refine xA ?_|refine xB ?_|(refine Bd.mk ?_ ?_ <;> intro _)|refine Im.mk fun _=>?_|refine xT ?_|refine xI ?_|refine xN ?_|refine xO ?_|fail)
    all_goals first
     | exact ⟨_, _, .one (.same (.z)), _, rfl, rfl, fun h => by cases h⟩
     | exact PA.lp (k + 1) xE ⟨⟨hkn, all_succ hp hks ⟨by omega, by omega⟩⟩, by omega⟩
   have hke : k = a.eff.delta.length := by omega
   subst hke
   rw [List.take_length] at hks
   repeat' (first|refine Sp.h ?_|refine Lk.r rfl ?_|refine Rf.mk rfl ?_|refine xB ?_|refine Im.mk fun _=>?_|refine xT ?_|fail)
   refine CA.loop (fun k : Nat => ⟨[(1, evs l), (2, pm b2), (7, it (strF m : Nat)), (8, it ((mrgF m).length : Nat)), (9, it i), (10, pm b10), (12, it k)], [mR b2 m, blkR b10 84 (effC a.eff)]⟩) (fun k => k ≤ a.eff.updates.length ∧ ∀ p ∈ a.eff.updates.take k, 0 ≤ p.2.1 ∧ p.2.1 < ((mrgF m).length : Nat)) (fun k => a.eff.updates.length - k) 0 xE ⟨Nat.zero_le _, by simp⟩ ?_
   rintro k ⟨hk2, hku⟩
   by_cases hkn2 : k < a.eff.updates.length
   ·obtain ⟨⟨uk, uc, uv⟩, hu⟩ := get_of hkn2
    repeat' (first|refine Sp.h ?_|refine Lk.r rfl ?_|refine Rf.mk rfl ?_|refine xA ?_|refine xB ?_|(refine Bd.mk ?_ ?_ <;> intro _)|refine Im.mk fun _=>?_|refine xT ?_|refine xI ?_|refine xN ?_|refine xO ?_|fail)
    all_goals first
     | exact ⟨_, _, .one (.same (.z)), _, rfl, rfl, fun h => by cases h⟩
     | exact PA.lp (k + 1) xE ⟨⟨hkn2, all_succ hu hku ⟨by simp only;omega, by simp only;omega⟩⟩, by omega⟩
   have hke : k = a.eff.updates.length := by omega
   subst hke
   rw [List.take_length] at hku
   repeat' (first|refine Sp.h ?_|refine Lk.r rfl ?_|refine Rf.mk rfl ?_|refine xB ?_|refine Im.mk fun _=>?_|refine xT ?_|refine xO ?_|fail)
   exact PA.lp (i + 1) xE ⟨⟨hin, all_succ ha hae ⟨hs1, hs2, hs3, hks, hku⟩⟩, by omega⟩
  ·repeat' (first|refine Sp.h ?_|refine Lk.r rfl ?_|refine Rf.mk rfl ?_|refine xA ?_|refine xB ?_|(refine Bd.mk ?_ ?_ <;> intro _)|refine Im.mk fun _=>?_|refine All.mk fun _=>?_|refine xT ?_|refine xI ?_|refine Ch.r ?_|(apply SetAsk.r;focus repeat' constructor)|refine xN ?_|fail)
   all_goals first
    | exact ⟨_, _, .one (.same (.z)), _, rfl, rfl, fun h => by cases h⟩
    | exact (hsz ⟨by omega, by omega, by omega⟩).elim
 have hie : i = m.acts.length := by omega
 subst hie
 rw [List.take_length] at hae

 repeat' (first|refine Sp.h ?_|refine Lk.r rfl ?_|refine Rf.mk rfl ?_|refine xB ?_|refine Im.mk fun _=>?_|refine xT ?_|fail)
 refine CA.loop (fun i : Nat => ⟨[(1, evs l), (7, it (strF m : Nat)), (8, it ((mrgF m).length : Nat)), (13, it i)], [mR b2 m]⟩) (fun i => i ≤ l.length ∧ ∀ e ∈ l.take i, e.past.length ≤ 8) (fun i => l.length - i) 0 xE ⟨Nat.zero_le _, by simp⟩ ?_
 rintro i ⟨hi, hpa⟩
 by_cases hin : i < l.length
 ·obtain ⟨e, he⟩ := get_of hin
  repeat' (first|refine Sp.h ?_|refine Lk.r rfl ?_|refine Rf.mk rfl ?_|refine xA ?_|(refine Bd.mk ?_ ?_ <;> intro _)|refine Im.mk fun _=>?_|refine xI ?_|refine xN ?_|refine xO ?_|fail)
  all_goals first
   | exact ⟨_, _, .one (.same (.z)), _, rfl, rfl, fun h => by cases h⟩
   | exact PA.lp (i + 1) xE ⟨⟨hin, all_succ he hpa (by omega)⟩, by omega⟩
 have hie : i = l.length := by omega
 subst hie
 rw [List.take_length] at hpa
 repeat' (first|refine Sp.h ?_|refine Lk.r rfl ?_|refine Rf.mk rfl ?_|refine xA ?_|refine xB ?_|(refine Bd.mk ?_ ?_ <;> intro _)|refine Im.mk fun _=>?_|refine xN ?_|fail)
 ·refine ⟨_, _, .one (.same (.z)), _, rfl, rfl, fun h => ⟨⟨hm, hol, hac, hae, by omega, ?_⟩, hll, hpa⟩⟩
  have := of_decide_eq_true h
  omega
 ·exact ⟨_, _, .one (.same (.z)), _, rfl, rfl, fun h => by cases h⟩
end Go.Proofs.YtajenkpjcbaadaaGreat
