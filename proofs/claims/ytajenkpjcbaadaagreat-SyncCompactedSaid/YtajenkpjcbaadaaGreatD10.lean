/- Part 10 of the ground of this proof: what its texts say of the model, the program and the plain data; conditions: those that are named. -/
import Derived.Shelf.Slices.In.SortNone
import Derived.Test.YtajenkpjcbaadaaGreatD09
namespace Go.Proofs.YtajenkpjcbaadaaGreat
open Go Go.CF
set_option maxRecDepth 20000
theorem bit_a (b : Bool) : CallA Tryz.prog 159 [bl b] [] fun r own => ∃ v, r = .ow v ∧ own = [arrR v 3 1 [[it (if b = true then 1 else 0)]] id] := by
 refine CallA.of pg ord159 Tryz.func159 rfl Tryz.ntmps159 Tryz.results159 rfl fun h0 G0 O0 => ?_
 cases b with
 | true =>
  repeat' (first|refine Sp.h ?_|refine Lk.r rfl ?_|refine Rf.mk rfl ?_|refine All.mk fun _=>?_|(apply Fk.r;focus repeat' first|infer_instance|constructor)|refine xN ?_|refine Rf.mk ⟨rfl, rfl, rfl⟩ ?_|fail)
  exact ⟨_, _, .one (.same (.z)), _, rfl, rfl⟩
 | false =>
  repeat' (first|refine Sp.h ?_|refine Lk.r rfl ?_|refine Rf.mk rfl ?_|refine All.mk fun _=>?_|(apply Fk.r;focus repeat' first|infer_instance|constructor)|refine xN ?_|refine Rf.mk ⟨rfl, rfl, rfl⟩ ?_|fail)
  exact ⟨_, _, .one (.same (.z)), _, rfl, rfl⟩
theorem bit_p (b : Bool) : CallP Tryz.prog 159 [bl b] (ints [if b = true then 1 else 0]) :=
 CallA.fx (bit_a b) fun _ _ ⟨_, e1, e2⟩ => by
  subst e1;subst e2
  exact .sl .here (Nat.le_of_ble_eq_true rfl) (.agg (.le (ALe.refl _) .nil) .nil) .nil
def setB (t : TblS) (g : MgS) : Bool := if t.kind = 2 then g.put || decide (0 < g.marks.length) else g.put && !g.drop && decide (g.marks.length = 0)
def setV (t : TblS) (g : MgS) : List Int := [if setB t g = true then 1 else 0]
theorem valuesS_p (t : TblS) (g : MgS) (h : t.kind = 2 ∨ t.kind = 3) : CallP Tryz.prog 127 [.agg (tblC t), .agg (mgC g)] (ints (setV t g)) := by
 obtain ⟨put, drop, l⟩ := g
 rcases h with h|h
 ·have hB : setB t ⟨put, drop, l⟩ = (put || decide (0 < l.length)) := if_pos h
  refine CallA.of pg ord127 Tryz.func127 rfl Tryz.ntmps127 Tryz.results127 rfl fun h0 G0 O0 => ?_
  cases put with
  | true =>
   repeat' (first|refine Sp.h ?_|refine Lk.r rfl ?_|refine Rf.mk rfl ?_|refine xA ?_|refine All.mk fun _=>?_|refine xT ?_|refine xN ?_|(apply Cl.p (bit_p _);focus repeat' constructor))
   exact Fin.p rfl (congrArg ints (by unfold setV;rw [hB];simp))
  | false =>
   repeat' (first|refine Sp.h ?_|refine Lk.r rfl ?_|refine Rf.mk rfl ?_|refine xA ?_|refine Im.mk fun _=>?_|refine All.mk fun _=>?_|refine xT ?_|refine xN ?_|(apply Cl.p (bit_p _);focus repeat' constructor))
   exact Fin.p rfl (congrArg ints (by unfold setV;rw [hB];simp))
 ·have hB : setB t ⟨put, drop, l⟩ = (put && !drop && decide (l.length = 0)) := if_neg (by omega)
  refine CallA.of pg ord127 Tryz.func127 rfl Tryz.ntmps127 Tryz.results127 rfl fun h0 G0 O0 => ?_
  cases put with
  | true =>
   cases drop with
   | true =>
    repeat' (first|refine Sp.h ?_|refine Lk.r rfl ?_|refine Rf.mk rfl ?_|refine xA ?_|refine xB ?_|refine All.mk fun _=>?_|refine xT ?_|refine xN ?_|(apply Cl.p (bit_p _);focus repeat' constructor))
    exact Fin.p rfl (congrArg ints (by unfold setV;rw [hB];simp))
   | false =>
    repeat' (first|refine Sp.h ?_|refine Lk.r rfl ?_|refine Rf.mk rfl ?_|refine xA ?_|refine xB ?_|refine Im.mk fun _=>?_|refine All.mk fun _=>?_|refine xT ?_|refine xN ?_|(apply Cl.p (bit_p _);focus repeat' constructor))
    exact Fin.p rfl (congrArg ints (by unfold setV;rw [hB];simp))
  | false =>
   repeat' (first|refine Sp.h ?_|refine Lk.r rfl ?_|refine Rf.mk rfl ?_|refine xA ?_|refine xB ?_|refine All.mk fun _=>?_|refine xT ?_|refine xN ?_|(apply Cl.p (bit_p _);focus repeat' constructor))
   exact Fin.p rfl (congrArg ints (by unfold setV;rw [hB];simp))
end Go.Proofs.YtajenkpjcbaadaaGreat
namespace Go.Proofs.YtajenkpjcbaadaaGreat
open Go Go.CF
set_option maxRecDepth 20000
def tR : TblS := ⟨⟨#[114]⟩, 3, [], 0, 1, 1⟩
def k1 : MkS := ⟨0, 1, 1, 0⟩
def k2 : MkS := ⟨1, 1, 1, 0⟩
def k3 : MkS := ⟨0, 2, 2, 0⟩
def L0 : List MgS := [mg0, mg0]
def L1 : List MgS := [⟨false, false, [k1]⟩, ⟨true, false, []⟩]
def L2 : List MgS := [⟨false, false, [k1]⟩, ⟨true, false, [k2]⟩]
end Go.Proofs.YtajenkpjcbaadaaGreat
namespace Go.Proofs.YtajenkpjcbaadaaGreat
open Go Go.CF
set_option maxRecDepth 20000
theorem out_fx {v : Value} {L : List MgE} (hl : L.length ≤ 1000000) (hm : ∀ x ∈ L, x.marks.length ≤ 1000000) {l l' : List AV} {own : List Res} (ht : FX [] l l' own) : FX (outR v L) (.ow v :: l) (mgs (L.map MgE.g) :: l') own := by
 refine .sl .here (by omega) (.unb .here ?_) ht
 refine FX.rows (o := []) (r := mgeR) (f := mgeC) (g := mgC) (φ := MgE.g) L fun x hx o' => ?_
 have := hm x hx
 exact .le (ALe.refl _) (.le (ALe.refl _) (.sl .here (by omega) (FX.refl _) .nil))
theorem applyOK_p (m : ModS) (l : List MgS) (e : EvS) (F : List MgS) (hm : MOK m) (hF : applyF m l e = (0, F)) (hl : F.length ≤ 1000000) (hk : ∀ g ∈ F, g.marks.length ≤ 1000000) :
  CallP Tryz.prog 73 [mdl m, mgs l, evA' e] (.tup [mgs F, it 0]) := by
 refine CallA.fx (apply_a m l e hm) ?_
 rw [hF]
 rintro r o (⟨v, L, _, rfl, rfl, hL⟩|⟨h, _⟩)
 ·have hL : L.map MgE.g = F := hL
  subst hL
  exact .tup (out_fx (by simpa using hl) (fun x hx => hk x.g (List.mem_map_of_mem hx)) (FX.refl _)) .nil
 ·exact absurd rfl h
end Go.Proofs.YtajenkpjcbaadaaGreat
namespace Go.Proofs.YtajenkpjcbaadaaGreat
open Go Go.CF
set_option maxRecDepth 20000
theorem out_fx2 {v : Value} {L : List MgE} {o rest rest2 : List Res} (tk1 : Take o (arrR v 194 3 L mgeC) rest) (tk2 : Take rest (bunR (L.map mgeR)) rest2) (hl : L.length ≤ 1000000) (hm : ∀ x ∈ L, x.marks.length ≤ 1000000) {l l' : List AV} {own : List Res} (ht : FX rest2 l l' own) : FX o (.ow v :: l) (mgs (L.map MgE.g) :: l') own := by
 refine .sl tk1 (by omega) (.unb tk2 ?_) ht
 refine FX.rows (o := rest2) (r := mgeR) (f := mgeC) (g := mgC) (φ := MgE.g) L fun x hx o' => ?_
 have := hm x hx
 exact .le (ALe.refl _) (.le (ALe.refl _) (.sl .here (by omega) (FX.refl _) .nil))
theorem addF_len (l : List MkS) (m : MkS) : (addF l m).2.length ≤ l.length + 1 := by
 unfold addF
 split
 ·simp
 ·split
  ·simp
  ·simp [insK];omega
theorem cellF_len {e : EvS} {t : TblS} {u : Option UpS} {g : MgS} : (cellF e t u g).2.marks.length ≤ g.marks.length + 1 := by
 have hf : (fgK e.past g.marks).length ≤ g.marks.length := List.length_filter_le _ _
 match u with
 | none => simp [cellF]
 | some u =>
  simp only [cellF]
  split
  ·exact addF_len _ _
  ·split
   ·simp only;omega
   ·split
    ·simp only;omega
    ·split
     ·simp only
      match hg : g.marks with
      | [] => exact addF_len _ _
      | x :: r => simp only [lastF];repeat' split <;> simp
     ·split
      ·simp only
       have := addF_len (fgK e.past g.marks) ⟨e.rep, e.num, e.time, if isReg t.kind then u.2.2 else 0⟩
       omega
      ·simp
theorem applyF_ok {m : ModS} {l : List MgS} {e : EvS} (h : (applyF m l e).1 = 0) : ValL (mrgF m) l ∧ EvV m (e.past.length : Nat) e ∧ (applyF m l e).2.length = l.length ∧
  (∀ (i : Nat) g, l[i]? = some g → (e.kind = 0 → updF (usF m e) i = none) → (applyF m l e).2[i]? = some g) ∧ ∀ g ∈ (applyF m l e).2, g.marks.length ≤ 1000000 := by
 have hv : ValL (mrgF m) l ∧ EvV m (e.past.length : Nat) e := Classical.byContradiction fun h9 => by
  rw [applyF, if_pos h9] at h
  cases h
 have hmk : ∀ (i : Nat) g, l[i]? = some g → ∃ t, (mrgF m)[i]? = some t ∧ ValG t g := fun i g hi => by
  obtain ⟨t, ht⟩ := get_of (l := mrgF m) (i := i) (by have := hv.1.1;have := (List.getElem?_eq_some_iff.1 hi).1;omega)
  exact ⟨t, ht, hv.1.2 i t g ht hi⟩
 refine ⟨hv.1, hv.2, ?_⟩
 by_cases hk : e.kind = 0
 rotate_left
 ·have hF : applyF m l e = (0, l) := by rw [applyF, if_neg (fun h9 => h9 hv), if_pos hk]
  rw [hF]
  refine ⟨rfl, fun i g hg _ => hg, fun g hg => ?_⟩
  obtain ⟨i, hi⟩ := List.getElem?_of_mem hg
  obtain ⟨t, _, h9⟩ := hmk i g hi
  have := h9.1.2.2.2
  omega
 have hF : applyF m l e = gatherF (cellsF (mrgF m) l (usF m e) e) := by rw [applyF, if_neg (fun h9 => h9 hv), if_neg (fun h9 => h9 hk)]
 rw [hF] at h
 have hG : gatherF (cellsF (mrgF m) l (usF m e) e) = (0, (cellsF (mrgF m) l (usF m e) e).map (·.2)) := by
  unfold gatherF at h ⊢
  cases hf : (cellsF (mrgF m) l (usF m e) e).find? fun p => decide (p.1 ≠ 0 ∧ p.1 ≠ 8) with
  | some p =>
   have := List.find?_some hf
   rw [hf] at h
   simp at this
   exact absurd h this.1
  | none =>
   rw [hf] at h
   simp only at h ⊢
   split at h
   ·cases h
   ·rename_i h9;rw [if_neg h9]
 rw [hF, hG]
 refine ⟨by simp [cellsF_len], fun i g hg hu => ?_, fun g hg => ?_⟩
 ·obtain ⟨t, ht, _⟩ := hmk i g hg
  rw [List.getElem?_map, cellsF_at ht hg, hu hk]
  rfl
 ·obtain ⟨p, hp, rfl⟩ := List.mem_map.1 hg
  obtain ⟨i, hi⟩ := List.getElem?_of_mem hp
  have hil := (List.getElem?_eq_some_iff.1 hi).1
  rw [cellsF_len] at hil
  obtain ⟨x, hx⟩ := get_of hil
  obtain ⟨t, ht, h9⟩ := hmk i x hx
  rw [cellsF_at ht hx] at hi
  cases hi
  have h1 := cellF_len (e := e) (t := t) (u := updF (usF m e) i) (g := x)
  have := h9.1.2.2.2
  omega
end Go.Proofs.YtajenkpjcbaadaaGreat
namespace Go.Proofs.YtajenkpjcbaadaaGreat
open Go Go.CF
set_option maxRecDepth 20000
/-! ### Searches in numbers -/
theorem indexI_p {g : FuncId} {p : Int → Bool} (hg : ∀ x, CallP Tryz.prog g [it x] (bl (p x))) (he : en g = true) (l : List Int) :
  CallP Tryz.prog 186 [ints l, .fn g []] (it (idxI p l)) := by
 refine CallA.of pg ord186 Tryz.func186 rfl Tryz.ntmps186 Tryz.results186 rfl fun h0 G0 O0 => ?_
 repeat' (first|refine Sp.h ?_|refine Lk.r rfl ?_|refine Rf.mk rfl ?_|refine Im.mk fun _=>?_|fail)
 refine CA.loop (fun i : Nat => ⟨[(0, ints l), (1, .fn g []), (7, it (l.length : Nat)), (8, it i)], []⟩)
  (fun i => i ≤ l.length ∧ ∀ j y, j < i → l[j]? = some y → p y = false) (fun i => l.length - i) 0 xE ⟨Nat.zero_le _, fun j y h => by omega⟩ ?_
 rintro i ⟨hi, hj⟩
 by_cases hin : i < l.length
 ·obtain ⟨e, hx⟩ := get_of hin
  repeat' (first|refine Sp.h ?_|refine Lk.r rfl ?_|refine Rf.mk rfl ?_|refine xA ?_|(refine Bd.mk ?_ ?_ <;> intro _)|refine xI ?_|refine xN ?_|(apply Rf.mk;(focus assumption))|refine xO ?_|(apply Cl.p (hg e);focus repeat' constructor))
  ·rename_i hp
   exact Fin.p rfl (by rw [idxI, idxN_of hx hp hj, if_pos hin])
  ·rename_i hp
   refine PA.lp (i + 1) xE ⟨⟨hin, fun j y h1 h2 => ?_⟩, by omega⟩
   by_cases hij : j = i
   ·subst hij;rw [hx] at h2;cases h2;simpa using hp
   ·exact hj j y (by omega) h2
 ·repeat' (first|refine Sp.h ?_|refine Lk.r rfl ?_|refine Rf.mk rfl ?_|refine xB ?_|refine xN ?_|fail)
  exact Fin.p rfl (by rw [idxI, idxN_none (fun x hx => by obtain ⟨j, hx⟩ := List.getElem?_of_mem hx;exact hj j x (by have := (List.getElem?_eq_some_iff.1 hx).1;omega) hx), if_neg (by omega)])
theorem containsI_p {g : FuncId} {p : Int → Bool} (hg : ∀ x, CallP Tryz.prog g [it x] (bl (p x))) (he : en g = true) (l : List Int) :
  CallP Tryz.prog 145 [ints l, .fn g []] (bl (decide (idxN p l < l.length))) := by
 refine CallA.of pg ord145 Tryz.func145 rfl Tryz.ntmps145 Tryz.results145 rfl fun h0 G0 O0 => ?_
 repeat' (first|refine Sp.h ?_|refine Lk.r rfl ?_|refine Rf.mk rfl ?_|refine xN ?_|(apply Cl.p (indexI_p hg he l);focus repeat' constructor))
 refine Fin.p rfl (vb (decide_eq_decide.2 ?_))
 unfold idxI
 split <;> omega
theorem inside1_p (x : Int) : CallP Tryz.prog 146 [it x] (bl (decide (¬ (-1000000000 ≤ x ∧ x ≤ 1000000000)))) := by
 refine CallA.of pg ord146 Tryz.func146 rfl Tryz.ntmps146 Tryz.results146 rfl fun h0 G0 O0 => ?_
 repeat' (first|refine Sp.h ?_|refine Lk.r rfl ?_|refine Rf.mk rfl ?_|refine xA ?_|refine xB ?_|(refine Bd.mk ?_ ?_ <;> intro _)|refine xN ?_|fail)
 all_goals exact Fin.p rfl (vb (by first|exact (decide_eq_true (by omega)).symm|exact (decide_eq_false (by omega)).symm|exact decide_eq_decide.2 (by omega)))
theorem inside35_p (l : List Int) : CallP Tryz.prog 82 [ints l] (bl (decide (insS l))) := by
 refine CallA.of pg ord82 Tryz.func82 rfl Tryz.ntmps82 Tryz.results82 rfl fun h0 G0 O0 => ?_
 repeat' (first|refine Sp.h ?_|refine Lk.r rfl ?_|refine Rf.mk rfl ?_|refine xN ?_|(apply Cl.p (containsI_p inside1_p rfl l);focus repeat' constructor))
 refine Fin.p rfl (vb (decide_eq_decide.2 ?_))
 rw [idxN_lt]
 constructor
 ·intro h x hx
  exact Classical.byContradiction fun h9 => h ⟨x, hx, decide_eq_true h9⟩
 ·rintro h ⟨x, hx, h9⟩
  have := h x hx
  have := of_decide_eq_true h9
  omega
/-! ### Clones -/
theorem cloneM_a (l : List MgS) (hl : l.length ≤ 1000000) (hm : ∀ g ∈ l, g.marks.length ≤ 1000000) :
  CallA Tryz.prog 75 [mgs l] [] fun r own => ∃ v L, r = .ow v ∧ L.map MgE.g = l ∧ own = outR v L := by
 have hc := cloneG_o l (by omega)
 refine CallA.of pg ord75 Tryz.func75 rfl Tryz.ntmps75 Tryz.results75 rfl fun h0 G0 O0 => ?_
 repeat' (first|refine Sp.h ?_|refine Lk.r rfl ?_|refine Rf.mk rfl ?_|fail)
 (refine Cl.use (hc) (by repeat' (first|exact Lend.nil|apply Lend.keep|fail)) .nil rfl ?_;rintro _ _ ⟨_, rfl, rfl⟩)
 repeat' (first|refine Sp.h ?_|refine Lk.r rfl ?_|refine Rf.mk rfl ?_|refine xU ?_|fail)
 rename_i v
 apply CA.retype (m := l.map ogG) (g := ogC)
 focus (repeat constructor)
 focus exact ogG_map l
 refine CA.bunNil mgeR ?_
 refine CA.loop (fun x : Nat × List MgE => ⟨[(3, .ow v), (8, it (l.length : Nat)), (9, it x.1)], [arrR v 194 3 (x.2.map ogE ++ (l.drop x.1).map ogG) ogC, bunR (x.2.map mgeR)]⟩)
  (fun x => x.1 ≤ l.length ∧ x.2.map MgE.g = l.take x.1) (fun x => l.length - x.1) (0, []) xE ⟨Nat.zero_le _, by simp⟩ ?_
 rintro ⟨i, D⟩ ⟨hi, hD⟩
 simp only at hi hD
 simp only
 by_cases hin : i < l.length
 ·obtain ⟨g, hg⟩ := get_of hin
  have hgm := hm g (List.mem_of_getElem? hg)
  have hDl : D.length = i := by have := congrArg List.length hD;simp at this;omega
  have hdr : (l.drop i).map ogG = ogG g :: (l.drop (i + 1)).map ogG := by
   have h9 := List.drop_eq_getElem_cons hin
   rw [(List.getElem?_eq_some_iff.1 hg).2] at h9
   rw [h9, List.map_cons]
  have hrow : (D.map ogE ++ (l.drop i).map ogG)[i]? = some (g.put, g.drop, mks g.marks) := by
   rw [hdr, List.getElem?_append_right (by simp;omega)];simp [hDl, ogG]
  have hcl := cloneK_o g.marks (by omega)
  repeat' (first|refine Sp.h ?_|refine Lk.r rfl ?_|refine Rf.mk rfl ?_|refine xA ?_|refine xU ?_|refine xI ?_|refine xJ ?_|fail)
  (refine Cl.use (hcl) (by repeat' (first|exact Lend.nil|apply Lend.keep|fail)) .nil rfl ?_;rintro _ _ ⟨_, rfl, rfl⟩)
  (repeat' (first|(show CA _ _ (Code.region 6 _ _) _ _;apply Stopped.out)|refine Sp.h ?_|refine Lk.r rfl ?_|refine Rf.mk rfl ?_|refine xU ?_|refine xI ?_|refine xJ ?_|refine xV ?_|(apply Up.inv;(focus repeat constructor);(focus infer_instance))|fail));any_goals apply Stopped.mk
  rename_i w2
  have hset : (D.map ogE ++ (l.drop i).map ogG).set i (g.put, g.drop, .ow w2) = (D ++ [(MgE.mk g.put g.drop w2 g.marks)]).map ogE ++ (l.drop (i + 1)).map ogG := by
   rw [hdr, List.set_append, if_neg (by simp;omega)]
   simp [hDl, ogE]
  rw [hset]
  apply CA.bunPush (g := mgeR) (x := (MgE.mk g.put g.drop w2 g.marks))
  focus (repeat constructor)
  focus (repeat constructor)
  repeat' (first|refine Sp.h ?_|refine Lk.r rfl ?_|refine Rf.mk rfl ?_|refine xO ?_|fail)
  exact PA.lp (i + 1, D ++ [(MgE.mk g.put g.drop w2 g.marks)]) xE ⟨⟨hin, by simp only;rw [List.map_append, hD, List.take_add_one, hg];rfl⟩, by simp only;omega⟩
 ·have hie : i = l.length := by omega
  subst hie
  rw [List.take_length] at hD
  rw [List.drop_length, List.map_nil, List.append_nil]
  (repeat' (first|(show CA _ _ (Code.region 7 _ _) _ _;apply Stopped.out)|refine Sp.h ?_|refine Lk.r rfl ?_|refine Rf.mk rfl ?_|refine xB ?_|fail));any_goals apply Stopped.mk
  apply CA.retype (m := D) (g := mgeC)
  focus (repeat constructor)
  focus exact ogE_map D
  repeat' (first|refine Sp.h ?_|refine Lk.r rfl ?_|refine Rf.mk rfl ?_|refine xN ?_|fail)
  exact ⟨_, _, .one (.same (.z)), _, D, rfl, hD, rfl⟩
theorem cloneM_p (l : List MgS) (hl : l.length ≤ 1000000) (hm : ∀ g ∈ l, g.marks.length ≤ 1000000) : CallP Tryz.prog 75 [mgs l] (mgs l) := by
 refine CallA.fx (cloneM_a l hl hm) ?_
 rintro r o ⟨v, L, rfl, rfl, rfl⟩
 exact out_fx (by simpa using hl) (fun x hx => hm x.g (List.mem_map_of_mem hx)) .nil
theorem cloneV_o (l : List EvS) (hl : l.length ≤ 1000000000) : CallO Tryz.prog 44 [evs l] 40 13 l evC := by
 refine CallA.of pg ord44 Tryz.func44 rfl Tryz.ntmps44 Tryz.results44 rfl fun h0 G0 O0 => ?_
 repeat' (first|refine Sp.h ?_|refine Lk.r rfl ?_|refine Rf.mk rfl ?_|(refine Bd.mk ?_ ?_ <;> intro _)|refine xP ?_|refine Im.mk fun _=>?_|refine All.mk fun _=>?_|refine xU ?_|refine Ce.l rfl ?_|(apply Fk.r;focus repeat' first|infer_instance|constructor)|refine xN ?_|refine Rf.mk ⟨rfl, rfl⟩ ?_|refine Rf.mk ⟨rfl, rfl, rfl⟩ ?_|refine Mp.same ?_|fail)
 ·rename_i b hb hbt
  have hl0 : l = [] := Decidable.byContradiction fun h => by rw [hb h] at hbt;cases hbt
  subst hl0
  exact ⟨_, _, .one (.nils (.z)), _, rfl, rfl⟩
 ·repeat' (first|fail)
  exact ⟨_, _, .one (.same (.z)), _, rfl, rfl⟩
structure EvE where
 e : EvS
 w : Value
def evQ (e : EvS) (p : AV) : List AV := [iv e.rep, iv e.num, iv e.time, p, iv e.kind, iv e.action, iv e.gk, iv e.gi, iv e.ge, iv e.ga, iv e.to, iv e.place, iv e.serial]
def eveC (x : EvE) : List AV := evQ x.e (.ow x.w)
abbrev eveR (x : EvE) : Res := arrR x.w 3 1 x.e.past intC
def oeC (x : EvS × AV) : List AV := evQ x.1 x.2
instance {e : EvS} {p : AV} : Inv oeC [iv e.rep, iv e.num, iv e.time, p, iv e.kind, iv e.action, iv e.gk, iv e.gi, iv e.ge, iv e.ga, iv e.to, iv e.place, iv e.serial] (e, p) := ⟨rfl⟩
def oeE (x : EvE) : EvS × AV := (x.e, .ow x.w)
def oeG (e : EvS) : EvS × AV := (e, ints e.past)
theorem oeE_map (l : List EvE) : l.map eveC = (l.map oeE).map oeC := by rw [List.map_map];rfl
theorem oeG_map (l : List EvS) : (l.map oeG).map oeC = l.map evC := by rw [List.map_map];rfl
abbrev outE (v : Value) (L : List EvE) : List Res := [arrR v 40 13 L eveC, bunR (L.map eveR)]
theorem outE_fx {v : Value} {L : List EvE} (hl : L.length ≤ 1000000) (hm : ∀ x ∈ L, x.e.past.length ≤ 1000000) {l l' : List AV} {o own : List Res} (ht : FX o l l' own) : FX (outE v L ++ o) (.ow v :: l) (evs (L.map EvE.e) :: l') own := by
 refine .sl .here (by omega) (.unb .here ?_) ht
 refine FX.rows (o := o) (r := eveR) (f := eveC) (g := evC) (φ := EvE.e) L fun x hx o' => ?_
 have := hm x hx
 exact .le (ALe.refl _) (.le (ALe.refl _) (.le (ALe.refl _) (.sl .here (by omega) (FX.refl _) (FX.refl _))))
set_option maxHeartbeats 2000000 in
theorem cloneEs_a (l : List EvS) (hl : l.length ≤ 1000000) (hm : ∀ e ∈ l, e.past.length ≤ 1000000) :
  CallA Tryz.prog 96 [evs l] [] fun r own => ∃ v L, r = .ow v ∧ L.map EvE.e = l ∧ own = outE v L := by
 have hc := cloneV_o l (by omega)
 refine CallA.of pg ord96 Tryz.func96 rfl Tryz.ntmps96 Tryz.results96 rfl fun h0 G0 O0 => ?_
 repeat' (first|refine Sp.h ?_|refine Lk.r rfl ?_|refine Rf.mk rfl ?_|fail)
 (refine Cl.use (hc) (by repeat' (first|exact Lend.nil|apply Lend.keep|fail)) .nil rfl ?_;rintro _ _ ⟨_, rfl, rfl⟩)
 repeat' (first|refine Sp.h ?_|refine Lk.r rfl ?_|refine Rf.mk rfl ?_|refine xU ?_|fail)
 rename_i v
 apply CA.retype (m := l.map oeG) (g := oeC)
 focus (repeat constructor)
 focus exact oeG_map l
 refine CA.bunNil eveR ?_
 refine CA.loop (fun x : Nat × List EvE => ⟨[(3, .ow v), (8, it (l.length : Nat)), (9, it x.1)], [arrR v 40 13 (x.2.map oeE ++ (l.drop x.1).map oeG) oeC, bunR (x.2.map eveR)]⟩)
  (fun x => x.1 ≤ l.length ∧ x.2.map EvE.e = l.take x.1) (fun x => l.length - x.1) (0, []) xE ⟨Nat.zero_le _, by simp⟩ ?_
 rintro ⟨i, D⟩ ⟨hi, hD⟩
 simp only at hi hD
 simp only
 by_cases hin : i < l.length
 ·obtain ⟨g, hg⟩ := get_of hin
  have hgm := hm g (List.mem_of_getElem? hg)
  have hDl : D.length = i := by have := congrArg List.length hD;simp at this;omega
  have hdr : (l.drop i).map oeG = oeG g :: (l.drop (i + 1)).map oeG := by
   have h9 := List.drop_eq_getElem_cons hin
   rw [(List.getElem?_eq_some_iff.1 hg).2] at h9
   rw [h9, List.map_cons]
  have hrow : (D.map oeE ++ (l.drop i).map oeG)[i]? = some (g, ints g.past) := by
   rw [hdr, List.getElem?_append_right (by simp;omega)];simp [hDl, oeG]
  have hcl := clone_o g.past (by omega)
  repeat' (first|refine Sp.h ?_|refine Lk.r rfl ?_|refine Rf.mk rfl ?_|refine xA ?_|refine xU ?_|refine xI ?_|refine xJ ?_|fail)
  (refine Cl.use (hcl) (by repeat' (first|exact Lend.nil|apply Lend.keep|fail)) .nil rfl ?_;rintro _ _ ⟨_, rfl, rfl⟩)
  (repeat' (first|(show CA _ _ (Code.region 6 _ _) _ _;apply Stopped.out)|refine Sp.h ?_|refine Lk.r rfl ?_|refine Rf.mk rfl ?_|refine xU ?_|refine xI ?_|refine xJ ?_|refine xV ?_|(apply Up.inv;(focus repeat constructor);(focus infer_instance))|fail));any_goals apply Stopped.mk
  rename_i w2
  have hset : (D.map oeE ++ (l.drop i).map oeG).set i (g, .ow w2) = (D ++ [(EvE.mk g w2)]).map oeE ++ (l.drop (i + 1)).map oeG := by
   rw [hdr, List.set_append, if_neg (by simp;omega)]
   simp [hDl, oeE]
  rw [hset]
  apply CA.bunPush (g := eveR) (x := (EvE.mk g w2))
  focus (repeat constructor)
  focus (repeat constructor)
  repeat' (first|refine Sp.h ?_|refine Lk.r rfl ?_|refine Rf.mk rfl ?_|refine xO ?_|fail)
  exact PA.lp (i + 1, D ++ [(EvE.mk g w2)]) xE ⟨⟨hin, by simp only;rw [List.map_append, hD, List.take_add_one, hg];rfl⟩, by simp only;omega⟩
 ·have hie : i = l.length := by omega
  subst hie
  rw [List.take_length] at hD
  rw [List.drop_length, List.map_nil, List.append_nil]
  (repeat' (first|(show CA _ _ (Code.region 7 _ _) _ _;apply Stopped.out)|refine Sp.h ?_|refine Lk.r rfl ?_|refine Rf.mk rfl ?_|refine xB ?_|fail));any_goals apply Stopped.mk
  apply CA.retype (m := D) (g := eveC)
  focus (repeat constructor)
  focus exact oeE_map D
  repeat' (first|refine Sp.h ?_|refine Lk.r rfl ?_|refine Rf.mk rfl ?_|refine xN ?_|fail)
  exact ⟨_, _, .one (.same (.z)), _, D, rfl, hD, rfl⟩
theorem cloneEs_p (l : List EvS) (hl : l.length ≤ 1000000) (hm : ∀ e ∈ l, e.past.length ≤ 1000000) : CallP Tryz.prog 96 [evs l] (evs l) := by
 refine CallA.fx (cloneEs_a l hl hm) ?_
 rintro r o ⟨v, L, rfl, rfl, rfl⟩
 have := outE_fx (v := v) (L := L) (o := []) (by simpa using hl) (fun x hx => hm x.e (List.mem_map_of_mem hx)) .nil
 simpa using this
/-! ### The strict cells of a model -/
theorem cells35_p (m : ModS) (hm : LayOK m.sorts m.tables) : CallP Tryz.prog 81 [mdl m] (it (strF m : Nat)) := by
 have hml := hm.2.2.1
 refine CallA.of pg ord81 Tryz.func81 rfl Tryz.ntmps81 Tryz.results81 rfl fun h0 G0 O0 => ?_
 repeat' (first|refine Sp.h ?_|refine Lk.r rfl ?_|refine Rf.mk rfl ?_|refine Im.mk fun _=>?_|refine All.mk fun _=>?_|refine xT ?_|fail)
 rename_i b1 _
 refine CA.loop (fun i : Nat => ⟨[(1, pm b1), (3, it (strN m (m.tables.take i) : Nat)), (10, tbls m.tables), (11, it (m.tables.length : Nat)), (12, it i)], [mR b1 m]⟩) (fun i => i ≤ m.tables.length) (fun i => m.tables.length - i) 0 xE (Nat.zero_le _) ?_
 intro i hi
 by_cases hin : i < m.tables.length
 ·obtain ⟨t, ht⟩ := get_of hin
  have hc := (hm.2.2.2 t (List.mem_of_getElem? ht)).1
  have h1 := sz_fit (m := m) hc
  have hn := strN_le hm i hi
  have hsu := strN_succ (m := m) ht
  by_cases hst : isStrict t.kind
  ·rw [if_pos hst] at hsu
   have h0 : t.kind = 0 ∨ t.kind = 1 := hst
   rcases h0 with h0|h0
   all_goals repeat' (first|refine Sp.h ?_|refine Lk.r rfl ?_|refine Rf.mk rfl ?_|refine xA ?_|refine xB ?_|refine Im.mk fun _=>?_|refine All.mk fun _=>?_|refine xT ?_|refine xI ?_|refine Ch.l ⟨rfl, rfl⟩ ?_|(apply SetAsk.r;focus repeat' constructor)|refine xN ?_|fail)
   all_goals rename_i b5 _
   all_goals refine CA.loop (fun k : Nat => ⟨[(1, pm b1), (3, it (strN m (m.tables.take i) : Nat)), (5, pm b5), (6, it (prodF m.sorts (t.cols.take k))), (10, tbls m.tables), (11, it (m.tables.length : Nat)), (12, it i), (25, ints t.cols), (26, it (t.cols.length : Nat)), (27, it k)], [mR b1 m, blkR b5 94 (tblC t)]⟩) (fun k => k ≤ t.cols.length) (fun k => t.cols.length - k) 0 xE (Nat.zero_le _) ?_
   all_goals intro k hk
   all_goals by_cases hkn : k < t.cols.length
   any_goals
    obtain ⟨x, hx⟩ := get_of hkn
    obtain ⟨j, rfl, y, hy, hy1, hy2⟩ := col_get hc hx
    have hb := prod_succ hx (show m.sorts[((j : Int)).toNat]? = some y by simpa using hy)
    have hp := prod_fit hc k
    have hp2 := prod_fit hc (k + 1)
    rw [hb] at hp2
    have hj := (List.getElem?_eq_some_iff.1 hy).1
    repeat' (first|refine Sp.h ?_|refine Lk.r rfl ?_|refine Rf.mk rfl ?_|refine xA ?_|refine xP ?_|refine xT ?_|refine xI ?_|refine xO ?_|fail)
    rw [← hb]
    exact PA.lp (k + 1) xE ⟨hkn, by omega⟩
   all_goals
    have hke : k = t.cols.length := by omega
    subst hke
    simp only [List.take_length]
    rw [h1.1]
    repeat' (first|refine Sp.h ?_|refine Lk.r rfl ?_|refine Rf.mk rfl ?_|refine xB ?_|refine xO ?_|fail)
    rw [show ((strN m (m.tables.take i) : Nat) : Int) + (szF m t : Nat) = (strN m (m.tables.take (i + 1)) : Nat) by omega]
    exact PA.lp (i + 1) xE ⟨hin, by omega⟩
  ·rw [if_neg hst] at hsu
   unfold isStrict at hst
   repeat' (first|refine Sp.h ?_|refine Lk.r rfl ?_|refine Rf.mk rfl ?_|refine xA ?_|refine xB ?_|refine All.mk fun _=>?_|refine xT ?_|refine xI ?_|refine Ch.l ⟨rfl, rfl⟩ ?_|(apply SetAsk.r;focus repeat' constructor)|refine xN ?_|refine xO ?_|fail)
   all_goals rw [show strN m (m.tables.take i) = strN m (m.tables.take (i + 1)) by omega]
   all_goals exact PA.lp (i + 1) xE ⟨hin, by omega⟩
 ·have hie : i = m.tables.length := by omega
  subst hie
  simp only [List.take_length]
  repeat' (first|refine Sp.h ?_|refine Lk.r rfl ?_|refine Rf.mk rfl ?_|refine xB ?_|refine xN ?_|fail)
  exact Fin.p rfl rfl
end Go.Proofs.YtajenkpjcbaadaaGreat
namespace Go.Proofs.YtajenkpjcbaadaaGreat
open Go Go.CF
set_option maxRecDepth 20000
theorem ovF_int : OvF Tryz.prog 167 22 :=
 ⟨_, 4, Tryz.func167, by kernel_rfl, by kernel_rfl, by kernel_rfl, by kernel_rfl⟩
instance (priority := 2000) {T : Nat → Ord × (Nat → Cls)} {n : Nat} {rs : Array ResultVar} {K : AV → List Res → Prop} {h0 : Heap} {G0 O0 : Nat → Prop} {d : Tmp} {x y : Operand} {tys : Array TypeId} {ty : TypeId} {e : EA} {o : List Res} {N : NA} :
  Sp (SA ⟨Tryz.prog, tt, en, pg, T, n, rs, K, h0, G0, O0, ⟨none⟩⟩ .loud (some d) (.call { callee := .value (.func 167), args := #[x, y], argTypes := tys }) ty e o N)
   (Lk (evA e x) fun a => Lk (evA e y) fun b => Ovl o a b (N ((d, .val (.bool false)) :: e) o)) := ⟨fun h => SA.ovl ovF_int (tS := 22) rfl rfl h⟩
set_option maxHeartbeats 1000000 in
theorem insertI_a (w u : Value) (L : List (List Value)) (r : List Value) (i : Nat) (hi : i ≤ L.length) (hl : L.length ≤ 1000000) :
  CallA Tryz.prog 133 [.ow w, it i, .ow u] [arrR w 3 1 L valR, arrR u 3 1 [r] valR] fun q own => ∃ w', q = .ow w' ∧ own = [arrR w' 3 1 (L.take i ++ r :: L.drop i) valR] := by
 refine CallA.of pg ord133 Tryz.func133 rfl Tryz.ntmps133 Tryz.results133 rfl fun h0 G0 O0 => ?_
 have h1r : ([r] : List (List Value)).length = 1 := rfl
 by_cases hin : i = L.length
 ·subst hin
  rw [List.take_length, List.drop_length]
  repeat' (first|refine Sp.h ?_|refine Lk.r rfl ?_|refine Rf.mk rfl ?_|refine xA ?_|refine xB ?_|refine xP ?_|refine All.mk fun _=>?_|refine xU ?_|refine Ce.r ?_|refine xN ?_|refine Rf.mk ⟨rfl, rfl⟩ ?_|(apply Jx.r;(focus exact rfl);(focus first|omega|(simp;done)|(simp;omega)))|refine Mp.same ?_|fail)
  exact ⟨_, _, .one (.same (.z)), _, rfl, rfl⟩
 have hin : i < L.length := by omega
 by_cases hc : capV w < L.length + 1
 ·repeat' (first|refine Sp.h ?_|refine Lk.r rfl ?_|refine Rf.mk rfl ?_|refine xA ?_|refine xB ?_|refine Im.mk fun _=>?_|refine xU ?_|refine Rf.mk ⟨rfl, rfl⟩ ?_|refine Rf.mk ⟨rfl, rfl, rfl⟩ ?_|(apply Jx.r;(focus exact rfl);(focus first|omega|(simp;done)|(simp;omega)))|refine Mp.same ?_|refine xO ?_|fail)
  refine Jx.r (j := L.length + [r].length - i) (by omega) (by omega) ?_
  (repeat' (first|(show CA _ _ (Code.region 12 _ _) _ _;apply Stopped.out)|refine Sp.h ?_|refine Lk.r rfl ?_|refine Rf.mk rfl ?_|refine OpK.r rfl ?_|refine xP ?_|refine All.mk fun _=>?_|refine xU ?_|refine Rf.mk ⟨rfl, rfl⟩ ?_|refine Rf.mk ⟨rfl, rfl, rfl⟩ ?_|(apply Jx.r;(focus exact rfl);(focus first|omega|(simp;done)|(simp;omega)))|refine Mp.same ?_|refine xD ?_|refine xO ?_|(apply CpS.part;(focus (repeat constructor;done)))|(apply TkX.r;(focus repeat constructor))|fail));any_goals apply Stopped.mk
  apply CA.ofX 9
  focus rfl
  focus (repeat constructor)
  focus (simp;omega)
  repeat' (first|refine Sp.h ?_|refine Lk.r rfl ?_|refine Rf.mk rfl ?_|refine xN ?_|fail)
  rw [ins_eq2 hin _ _ _ _ _ _ (by omega) (by omega) (by omega) (by simp;omega) (by omega) h1r]
  exact ⟨_, _, .one (.same (.z)), _, rfl, rfl⟩
 ·(repeat' (first|(show CA _ _ (Code.region 13 _ _) _ _;apply Stopped.out)|refine Sp.h ?_|refine Lk.r rfl ?_|refine Rf.mk rfl ?_|refine xB ?_|refine Im.mk fun _=>?_|refine xU ?_|(apply Jx.r;(focus exact rfl);(focus first|omega|(simp;done)|(simp;omega)))|refine xO ?_|fail));any_goals apply Stopped.mk
  apply CA.toX 0
  focus rfl
  focus (repeat constructor)
  intro _
  (repeat' (first|(show CA _ _ (Code.region 16 _ _) _ _;apply Stopped.out)|refine Sp.h ?_|refine Lk.r rfl ?_|refine Rf.mk rfl ?_|refine xB ?_|refine OpK.r rfl ?_|refine xP ?_|refine Rf.mk ⟨rfl, rfl, rfl⟩ ?_|(apply Jx.r;(focus exact rfl);(focus first|omega|(simp;done)|(simp;omega)))|refine xD ?_|refine xO ?_|(apply CpS.part;(focus (repeat constructor;done)))|(apply TkX.r;(focus repeat constructor))|(apply ExX.long;(focus rfl);(focus first|omega|(simp <;> omega));(focus first|omega|(simp <;> omega)))|(apply Ovl.mk';(focus repeat constructor);(focus repeat constructor);(focus decide))|fail));any_goals apply Stopped.mk
  refine CA.sub ⟨[(0, .ow _), (1, it i), (2, .ow u)], [arrR _ 3 1 _ valR, arrR u 3 1 [r] valR]⟩ xE ?_
  repeat' (first|refine Sp.h ?_|refine Lk.r rfl ?_|refine Rf.mk rfl ?_|refine xU ?_|refine xN ?_|refine Rf.mk ⟨rfl, rfl, rfl⟩ ?_|(apply Jx.r;(focus exact rfl);(focus first|omega|(simp;done)|(simp;omega)))|refine Mp.same ?_|(apply CpS.all;(focus (repeat constructor;done)))|fail)
  rw [ins_eq hin _ _ _ (by omega) (by simp;omega) h1r]
  exact ⟨_, _, .one (.same (.z)), _, rfl, rfl⟩
theorem isNaNS_p (x : Int) : CallP Tryz.prog 166 [it x] (bl false) := by
 refine CallA.of pg ord166 Tryz.func166 rfl Tryz.ntmps166 Tryz.results166 rfl fun h0 G0 O0 => ?_
 repeat' (first|refine Sp.h ?_|refine Lk.r rfl ?_|refine Rf.mk rfl ?_|refine xN ?_|fail)
 all_goals exact Fin.p rfl (vb (by simp))
theorem lessI_p (x y : Int) : CallP Tryz.prog 165 [it x, it y] (bl (decide (x < y))) := by
 refine CallA.of pg ord165 Tryz.func165 rfl Tryz.ntmps165 Tryz.results165 rfl fun h0 G0 O0 => ?_
 repeat' (first|refine Sp.h ?_|refine Lk.r rfl ?_|refine Rf.mk rfl ?_|refine xN ?_|(apply Cl.p (isNaN_p _);focus repeat' constructor))
 all_goals exact Fin.p rfl (vb (by first|rfl|(simp;done)|(simp;omega)))
noncomputable def posI (l : List Int) (n : Int) : Nat := idxN (fun y => decide (¬ y < n)) l
theorem posI_of {l : List Int} {x : Int} {n : Nat} (hn : n ≤ l.length) (h1 : ∀ (q : Nat) y, q < n → l[q]? = some y → y < x) (h2 : ∀ (q : Nat) y, n ≤ q → l[q]? = some y → ¬ y < x) : posI l x = n := by
 by_cases hnl : n < l.length
 ·obtain ⟨y, hy⟩ := get_of hnl
  exact idxN_of hy (decide_eq_true (h2 n y (Nat.le_refl _) hy)) fun j z hj hz => decide_eq_false (fun h => h (h1 j z hj hz))
 ·have hne : n = l.length := by omega
  rw [hne]
  exact idxN_none fun y hy => by
   obtain ⟨j, hj⟩ := List.getElem?_of_mem hy
   exact decide_eq_false (fun h => h (h1 j y (by have := (List.getElem?_eq_some_iff.1 hj).1;omega) hj))
abbrev SrtI (l : List Int) : Prop := l.Pairwise (· < ·)
theorem srtI_at {l : List Int} (h : SrtI l) {i j : Nat} {a b : Int} (hij : i < j) (ha : l[i]? = some a) (hb : l[j]? = some b) : a < b := by
 obtain ⟨h1, rfl⟩ := List.getElem?_eq_some_iff.1 ha
 obtain ⟨h2, rfl⟩ := List.getElem?_eq_some_iff.1 hb
 exact List.pairwise_iff_getElem.1 h i j h1 h2 hij
theorem binI_p (l : List Int) (x : Int) (hs : SrtI l) (hl : l.length ≤ 1000000) :
  CallP Tryz.prog 132 [ints l, it x] (.tup [it (posI l x : Nat), bl (decide (x ∈ l))]) := by
 have hmem : ∀ n, posI l x = n → (∀ (q : Nat) y, q < n → l[q]? = some y → y < x) → (∀ (q : Nat) y, n ≤ q → l[q]? = some y → ¬ y < x) → (x ∈ l ↔ l[n]? = some x) := fun n _ h1 h2 => by
  constructor
  ·intro h
   obtain ⟨j, hj⟩ := List.getElem?_of_mem h
   rcases Nat.lt_trichotomy j n with hjn|hjn|hjn
   ·have := h1 j x hjn hj;omega
   ·rw [← hjn];exact hj
   ·have hjl := (List.getElem?_eq_some_iff.1 hj).1
    obtain ⟨z, hz⟩ := get_of (l := l) (i := n) (by omega)
    have := srtI_at hs hjn hz hj
    exact absurd this (h2 n z (Nat.le_refl _) hz)
  ·exact List.mem_of_getElem?
 refine CallA.of pg ord132 Tryz.func132 rfl Tryz.ntmps132 Tryz.results132 rfl fun h0 G0 O0 => ?_
 repeat' (first|refine Sp.h ?_|refine Lk.r rfl ?_|refine Rf.mk rfl ?_|refine Im.mk fun _=>?_|fail)
 refine CA.loop (fun p : Nat × Nat => ⟨[(0, ints l), (1, it x), (6, it (l.length : Nat)), (7, it p.1), (8, it p.2)], []⟩)
  (fun p => p.1 ≤ p.2 ∧ p.2 ≤ l.length ∧ (∀ (q : Nat) y, q < p.1 → l[q]? = some y → y < x) ∧ ∀ (q : Nat) y, p.2 ≤ q → l[q]? = some y → ¬ y < x) (fun p => p.2 - p.1) (0, l.length) xE
  ⟨Nat.zero_le _, Nat.le_refl _, fun q y h => absurd h (Nat.not_lt_zero q), fun q y h h' => by have := (List.getElem?_eq_some_iff.1 h').1;simp only at h;omega⟩ ?_
 rintro ⟨i, j⟩ ⟨h1, h2, h3, h4⟩
 simp only at h1 h2 h3 h4
 simp only
 by_cases hij : i < j
 ·obtain ⟨y, hy⟩ := get_of (l := l) (i := (i + j) / 2) (by omega)
  have e1 : ((i : Int) + (j : Int)) / 2 = (((i + j) / 2 : Nat) : Int) := by omega
  have hle := lessI_p y x
  by_cases hyx : y < x
  ·repeat' (first|refine Sp.h ?_|refine Lk.r rfl ?_|refine Rf.mk rfl ?_|refine xA ?_|refine xI ?_|refine xO ?_|(apply Cvk.i64;(focus rfl);(focus omega))|(apply Cvk.u64;(focus rfl);(focus omega))|(apply Cl.p (hle);focus repeat' constructor))
   exact PA.lp ((i + j) / 2 + 1, j) xE ⟨⟨by simp only;omega, h2, fun q z hq hz => by
    simp only at hq
    by_cases hqe : q = (i + j) / 2
    ·subst hqe;rw [hy] at hz;cases hz;exact hyx
    ·have := srtI_at hs (show q < (i + j) / 2 by omega) hz hy;omega, h4⟩, by simp only;omega⟩
  ·repeat' (first|refine Sp.h ?_|refine Lk.r rfl ?_|refine Rf.mk rfl ?_|refine xA ?_|refine xB ?_|refine xI ?_|refine xO ?_|(apply Cvk.i64;(focus rfl);(focus omega))|(apply Cvk.u64;(focus rfl);(focus omega))|(apply Cl.p (hle);focus repeat' constructor))
   exact PA.lp (i, (i + j) / 2) xE ⟨⟨by simp only;omega, by simp only;omega, h3, fun q z hq hz h => by
    simp only at hq
    by_cases hqe : q = (i + j) / 2
    ·subst hqe;rw [hy] at hz;cases hz;exact hyx h
    ·have := srtI_at hs (show (i + j) / 2 < q by omega) hy hz;omega⟩, by simp only;omega⟩
 ·have hije : i = j := by omega
  subst hije
  have hpos := posI_of h2 h3 h4
  have hm := hmem i hpos h3 h4
  rw [hpos]
  by_cases hin : i < l.length
  ·obtain ⟨y, hy⟩ := get_of hin
   have hme : x ∈ l ↔ y = x := hm.trans (by rw [hy];simp)
   rw [show decide (x ∈ l) = decide (y = x) from decide_eq_decide.2 hme]
   repeat' (first|refine Sp.h ?_|refine Lk.r rfl ?_|refine Rf.mk rfl ?_|refine xA ?_|refine xB ?_|(refine Bd.mk ?_ ?_ <;> intro _)|refine xI ?_|refine xN ?_|(apply Cl.p (isNaNS_p _);focus repeat' constructor))
   all_goals exact Fin.p rfl (by first|rw [decide_eq_true (by first|rfl|assumption)] | rw [decide_eq_false (by assumption)])
  ·have : decide (x ∈ l) = false := decide_eq_false (fun h => by have := (List.getElem?_eq_some_iff.1 (hm.1 h)).1;omega)
   rw [this]
   repeat' (first|refine Sp.h ?_|refine Lk.r rfl ?_|refine Rf.mk rfl ?_|refine xB ?_|refine xN ?_|(apply Cl.p (isNaNS_p _);(focus repeat' (first|fail))))
   all_goals exact Fin.p rfl rfl
def rowI (x : Int) : List Value := [.int .i64 x]
theorem rowI_map (l : List Int) : (l.map rowI).map valR = l.map intC := by rw [List.map_map];rfl
theorem with_eq {l : List Int} {n : Int} (hs : SrtI l) (hn : n ∉ l) : withP l n = l.take (posI l n) ++ n :: l.drop (posI l n) := by
 rw [withP, if_neg hn]
 have key : ∀ l : List Int, SrtI l → n ∉ l → l.filter (· < n) = l.take (posI l n) ∧ l.filter (n < ·) = l.drop (posI l n) := by
  intro l
  induction l with
  | nil => intro _ _;exact ⟨rfl, rfl⟩
  | cons a l ih =>
   intro hs hn
   obtain ⟨s1, s2⟩ := List.pairwise_cons.1 hs
   obtain ⟨i1, i2⟩ := ih s2 (fun h => hn (List.mem_cons_of_mem _ h))
   by_cases ha : a < n
   ·have hp : posI (a :: l) n = posI l n + 1 := by simp [posI, idxN, ha]
    rw [hp, List.take_succ_cons, List.drop_succ_cons, List.filter_cons_of_pos (by simpa using ha), List.filter_cons_of_neg (by simp;omega), i1, i2]
    exact ⟨rfl, rfl⟩
   ·have hp : posI (a :: l) n = 0 := by simp [posI, idxN, ha]
    have hne : a ≠ n := fun e => hn (e ▸ List.mem_cons_self)
    rw [hp, List.take_zero, List.drop_zero]
    refine ⟨List.filter_eq_nil_iff.2 fun y hy => ?_, List.filter_eq_self.2 fun y hy => ?_⟩
    ·rcases List.mem_cons.1 hy with rfl|hy
     ·simp;omega
     ·have := s1 y hy;simp;omega
    ·rcases List.mem_cons.1 hy with rfl|hy
     ·simp;omega
     ·have := s1 y hy;simp;omega
 obtain ⟨k1, k2⟩ := key l hs hn
 rw [k1, k2]
theorem insertN_a (w u : Value) (l : List Int) (n : Int) (i : Nat) (hi : i ≤ l.length) (hl : l.length ≤ 1000000) :
  CallA Tryz.prog 133 [.ow w, it i, .ow u] [arrR w 3 1 l intC, arrR u 3 1 [[it n]] id] fun q own => ∃ w', q = .ow w' ∧ own = [arrR w' 3 1 (l.take i ++ n :: l.drop i) intC] := by
 have h := insertI_a w u (l.map rowI) (rowI n) i (by simpa using hi) (by simpa using hl)
 rw [arrR_eq (l := l.map rowI) (f := valR) (m := l) (g := intC) (rowI_map l), arrR_eq (l := [rowI n]) (f := valR) (m := [[it n]]) (g := id) rfl] at h
 refine h.mono ?_
 rintro _ _ ⟨w', rfl, rfl⟩
 refine ⟨w', rfl, ?_⟩
 rw [show (l.map rowI).take i ++ rowI n :: (l.map rowI).drop i = (l.take i ++ n :: l.drop i).map rowI by simp]
 rw [arrR_eq (rowI_map _)]
theorem with_p (l : List Int) (n : Int) (hs : SrtI l) (hl : l.length ≤ 100000) : CallP Tryz.prog 74 [ints l, it n] (ints (withP l n)) := by
 have hb := binI_p l n hs (by omega)
 have hc := clone_o l (by omega)
 by_cases hn : n ∈ l
 ·rw [show withP l n = l from if_pos hn]
  rw [decide_eq_true hn] at hb
  refine CallA.of pg ord74 Tryz.func74 rfl Tryz.ntmps74 Tryz.results74 rfl fun h0 G0 O0 => ?_
  repeat' (first|refine Sp.h ?_|refine Lk.r rfl ?_|refine Rf.mk rfl ?_|refine xN ?_|(apply Cl.p (hb);focus repeat' constructor))
  exact Fin.p rfl rfl
 ·have hpl : posI l n ≤ l.length := idxN_le _ _
  rw [decide_eq_false hn] at hb
  rw [with_eq hs hn]
  refine CallA.fz (T := 3) (by simp;omega) ?_
  refine CallA.of pg ord74 Tryz.func74 rfl Tryz.ntmps74 Tryz.results74 rfl fun h0 G0 O0 => ?_
  repeat' (first|refine Sp.h ?_|refine Lk.r rfl ?_|refine Rf.mk rfl ?_|(apply Cl.p (hb);focus repeat' constructor))
  (refine Cl.use (hc) (by repeat' (first|exact Lend.nil|apply Lend.keep|fail)) .nil rfl ?_;rintro _ _ ⟨_, rfl, rfl⟩)
  repeat' (first|refine Sp.h ?_|refine Lk.r rfl ?_|refine Rf.mk rfl ?_|refine All.mk fun _=>?_|(apply Fk.r;focus repeat' first|infer_instance|constructor)|refine Rf.mk ⟨rfl, rfl, rfl⟩ ?_|fail)
  rename_i w u
  have hi := insertN_a w u l n (posI l n) hpl (by omega)
  refine xW (hi) ?_
  rintro _ _ ⟨w', rfl, rfl⟩
  repeat' (first|refine Sp.h ?_|refine Lk.r rfl ?_|refine xN ?_|fail)
  exact ⟨_, _, .one (.same (.z)), _, rfl, rfl⟩
end Go.Proofs.YtajenkpjcbaadaaGreat
namespace Go.Proofs.YtajenkpjcbaadaaGreat
open Go Go.CF
set_option maxRecDepth 20000
abbrev basC (b : NowS) : List AV := [ints b.clock, it b.time, ints b.state, mgs b.merged, nl0, nl0, ints b.places]
abbrev basA (b : NowS) : AV := .agg (basC b)
abbrev stoC (m : ModS) (b : NowS) (v : Value) (w : NowS) : List AV := [ints m.sorts, tbls m.tables, .sl 1 m.families strC, .sl 6 m.cons cnsC, .sl 3 m.ops opC, .sl 5 m.acts actC, .sl 3 m.hides updC, ints b.clock, it b.time, ints b.state, mgs b.merged, nl0, nl0, ints b.places, .ow v, ints w.clock, it w.time, ints w.state, mgs w.merged, ints w.places]
abbrev stoR (p : Nat) (m : ModS) (b : NowS) (v : Value) (w : NowS) : Res := blkR p 134 (stoC m b v w)
abbrev stpC (s : Nat) (e : EvS) (w : NowS) : List AV := [pm s, iv e.rep, iv e.num, iv e.time, ints e.past, iv e.kind, iv e.action, iv e.gk, iv e.gi, iv e.ge, iv e.ga, iv e.to, iv e.place, iv e.serial, ints w.clock, it w.time, ints w.state, mgs w.merged, ints w.places]
abbrev stpR (p s : Nat) (e : EvS) (w : NowS) : Res := blkR p 164 (stpC s e w)
theorem name35_p (e : EvS) : CallP Tryz.prog 72 [evA' e] (dotC e.rep e.num) := by
 refine CallA.of pg ord72 Tryz.func72 rfl Tryz.ntmps72 Tryz.results72 rfl fun h0 G0 O0 => ?_
 repeat' (first|refine Sp.h ?_|refine Lk.r rfl ?_|refine Rf.mk rfl ?_|refine All.mk fun _=>?_|refine xT ?_|(apply SetAsk.r;focus repeat' constructor)|(apply Fk.r;focus repeat' first|infer_instance|constructor)|refine xN ?_|fail)
 exact Fin.p rfl rfl
theorem count_a (x s : Nat) (e : EvS) (w : NowS) (h0 : 0 ≤ e.rep) (h1 : e.rep.toNat < w.clock.length) (hl : w.clock.length ≤ 5) :
  CallA Tryz.prog 91 [pm x] [stpR x s e w] fun r own => r = it 0 ∧ own = [stpR x s e { w with clock := cntF w.clock e }] := by
 obtain ⟨y, hy⟩ := get_of h1
 have hc := clone_o w.clock (by omega)
 have hcnt : cntF w.clock e = w.clock.set e.rep.toNat (max y e.num) := by rw [cntF, hy];rfl
 rw [hcnt]
 refine CallA.of pg ord91 Tryz.func91 rfl Tryz.ntmps91 Tryz.results91 rfl fun h0 G0 O0 => ?_
 repeat' (first|refine Sp.h ?_|refine Lk.r rfl ?_|refine Rf.mk rfl ?_|refine xT ?_|fail)
 (refine Cl.use (hc) (by repeat' (first|exact Lend.nil|apply Lend.keep|fail)) .nil rfl ?_;rintro _ _ ⟨_, rfl, rfl⟩)
 (repeat' (first|(show CA _ _ (Code.region 3 _ _) _ _;apply Stopped.out)|refine Sp.h ?_|refine Lk.r rfl ?_|refine Rf.mk rfl ?_|refine OpK.r rfl ?_|refine xU ?_|refine xT ?_|(apply Ix.r;(focus assumption);(focus omega))|refine xJ ?_|refine xV ?_|refine Up.r rfl ?_|refine xD ?_|fail));any_goals apply Stopped.mk
 (apply CA.own;(focus (apply OX.blk (b := x);(focus repeat constructor);(focus (repeat' (first|exact FX.nil|(apply FX.s1;(focus repeat constructor);(focus first|omega|(simp;done)|(simp;omega)))|apply FX.k)));(focus repeat constructor))))
 repeat' (first|refine Sp.h ?_|refine Lk.r rfl ?_|refine Rf.mk rfl ?_|refine xN ?_|fail)
 exact ⟨_, _, .one (.same (.z)), rfl, rfl⟩
set_option maxHeartbeats 4000000 in
theorem order_a (x s : Nat) (m : ModS) (b : NowS) (v : Value) (evs' : List EvS) (wn : NowS) (e : EvS) (w : NowS) (hl : evs'.length ≤ 1000000) :
  CallA Tryz.prog 92 [pm x] [stpR x s e w, stoR s m b v wn, arrR v 40 13 evs' evC] fun r own => (LateE evs' e ∧ r = it 2 ∧ own = [stoR s m b v wn, arrR v 40 13 evs' evC]) ∨ (¬ LateE evs' e ∧ r = it 0 ∧ own = [stpR x s e { w with time := max w.time e.time }, stoR s m b v wn, arrR v 40 13 evs' evC]) := by
 refine CallA.of pg ord92 Tryz.func92 rfl Tryz.ntmps92 Tryz.results92 rfl fun h0 G0 O0 => ?_
 repeat' (first|refine Sp.h ?_|refine Lk.r rfl ?_|refine Rf.mk rfl ?_|refine xU ?_|refine xT ?_|fail)
 refine CA.loop (fun i : Nat => ⟨[(0, pm x), (11, .ow v), (12, it (evs'.length : Nat)), (13, it i)], [stpR x s e w, stoR s m b v wn, arrR v 40 13 evs' evC]⟩) (fun i => i ≤ evs'.length ∧ ∀ y ∈ evs'.take i, ¬ (HasC e.past y.rep y.num ∧ e.time ≤ y.time)) (fun i => evs'.length - i) 0 xE ⟨Nat.zero_le _, by simp⟩ ?_
 rintro i ⟨hi, ha⟩
 by_cases hin : i < evs'.length
 ·obtain ⟨y, hy⟩ := get_of hin
  have h1 := name35_p y
  have h2 := hasC_p e.past y.rep y.num
  by_cases hh : HasC e.past y.rep y.num
  ·by_cases ht : e.time ≤ y.time
   ·repeat' (first|refine Sp.h ?_|refine Lk.r rfl ?_|refine Rf.mk rfl ?_|refine xA ?_|refine OpK.r rfl ?_|refine All.mk fun _=>?_|refine xU ?_|refine xT ?_|refine xI ?_|refine xJ ?_|refine Ch.l ⟨rfl, rfl⟩ ?_|(apply SetAsk.r;focus repeat' constructor)|refine xN ?_|refine xD ?_|(apply Cl.p (h1);focus (repeat' constructor);done)|(apply Cl.p (h2);focus (repeat' constructor);done))
    all_goals exact ⟨_, _, .one (.same (.z)), .inl ⟨⟨y, List.mem_of_getElem? hy, hh, ht⟩, rfl, rfl⟩⟩
   ·repeat' (first|refine Sp.h ?_|refine Lk.r rfl ?_|refine Rf.mk rfl ?_|refine xA ?_|refine xB ?_|refine OpK.r rfl ?_|refine All.mk fun _=>?_|refine xU ?_|refine xT ?_|refine xI ?_|refine xJ ?_|refine Ch.l ⟨rfl, rfl⟩ ?_|(apply SetAsk.r;focus repeat' constructor)|refine xN ?_|refine xD ?_|refine xO ?_|(apply Cl.p (h1);focus (repeat' constructor);done)|(apply Cl.p (h2);focus (repeat' constructor);done))
    all_goals exact PA.lp (i + 1) xE ⟨⟨hin, all_succ hy ha (fun h => ht h.2)⟩, by omega⟩
  ·repeat' (first|refine Sp.h ?_|refine Lk.r rfl ?_|refine Rf.mk rfl ?_|refine xA ?_|refine xB ?_|refine OpK.r rfl ?_|refine All.mk fun _=>?_|refine xU ?_|refine xT ?_|refine xI ?_|refine xJ ?_|refine Ch.l ⟨rfl, rfl⟩ ?_|(apply SetAsk.r;focus repeat' constructor)|refine xN ?_|refine xD ?_|refine xO ?_|(apply Cl.p (h1);focus (repeat' constructor);done)|(apply Cl.p (h2);focus (repeat' constructor);done))
   all_goals exact PA.lp (i + 1) xE ⟨⟨hin, all_succ hy ha (fun h => hh h.1)⟩, by omega⟩
 ·have hie : i = evs'.length := by omega
  subst hie
  rw [List.take_length] at ha
  repeat' (first|refine Sp.h ?_|refine Lk.r rfl ?_|refine Rf.mk rfl ?_|refine xB ?_|refine OpK.r rfl ?_|refine xT ?_|refine xV ?_|refine xN ?_|refine xD ?_|fail)
  exact ⟨_, _, .one (.same (.z)), .inr ⟨fun ⟨y, hy, h⟩ => ha y hy h, rfl, rfl⟩⟩
theorem dltF_at {m : ModS} {e : EvS} {a : ActS} (h : m.acts[e.action.toNat]? = some a) : dltF m e = a.eff.delta := by rw [dltF, h]
theorem addD_succ {s : List Int} {d : List (Int × Int)} {i : Nat} {p : Int × Int} (h : d[i]? = some p) : addD s (d.take (i + 1)) = add1 (addD s (d.take i)) p := by
 rw [List.take_add_one, h, addD, List.foldl_append];rfl
theorem addD_length (d : List (Int × Int)) : ∀ s : List Int, (addD s d).length = s.length := by
 induction d with
 | nil => intro s;rfl
 | cons p d ih => intro s;rw [addD, List.foldl_cons];exact (ih _).trans (by simp [add1])
set_option maxHeartbeats 4000000 in
theorem sadd_a (x s : Nat) (m : ModS) (b : NowS) (v : Value) (wn : NowS) (e : EvS) (w : NowS) (hm : MOK m) (hst : w.state.length = strF m) (hev : e.kind = 0 → 0 ≤ e.action ∧ e.action < (m.acts.length : Nat)) :
  CallA Tryz.prog 93 [pm x] [stpR x s e w, stoR s m b v wn] fun r own => (e.kind = 0 ∧ ¬ insS (addE m w.state e) ∧ r = it 2 ∧ own = [stoR s m b v wn]) ∨ (¬ (e.kind = 0 ∧ ¬ insS (addE m w.state e)) ∧ r = it 0 ∧ own = [stpR x s e { w with state := addE m w.state e }, stoR s m b v wn]) := by
 by_cases hk : e.kind = 0
 ·obtain ⟨h1, h2⟩ := hev hk
  obtain ⟨a, ha⟩ := get_of (l := m.acts) (i := e.action.toNat) (by omega)
  have hd := dltF_at ha
  have heo := hm.eff a (List.mem_of_getElem? ha)
  have hsl := hm.str
  have hadd : addE m w.state e = addD w.state a.eff.delta := by rw [addE, if_pos hk, hd]
  rw [hadd]
  have hc := clone_o w.state (by omega)
  have hin := inside35_p (addD w.state a.eff.delta)
  refine CallA.of pg ord93 Tryz.func93 rfl Tryz.ntmps93 Tryz.results93 rfl fun h0 G0 O0 => ?_
  repeat' (first|refine Sp.h ?_|refine Lk.r rfl ?_|refine Rf.mk rfl ?_|refine xA ?_|refine xT ?_|fail)
  (refine Cl.use (hc) (by repeat' (first|exact Lend.nil|apply Lend.keep|fail)) .nil rfl ?_;rintro _ _ ⟨_, rfl, rfl⟩)
  repeat' (first|refine Sp.h ?_|refine Lk.r rfl ?_|refine Rf.mk rfl ?_|refine OpK.r rfl ?_|refine Im.mk fun _=>?_|refine xT ?_|(apply Ix.r;(focus assumption);(focus omega))|refine xV ?_|refine xD ?_|fail)
  rename_i u _
  refine CA.loop (fun i : Nat => ⟨[(0, pm x), (37, terms a.eff.delta), (38, it (a.eff.delta.length : Nat)), (39, it i)], [arrR u 3 1 (addD w.state (a.eff.delta.take i)) intC, blkR x 164 [pm s, iv e.rep, iv e.num, iv e.time, ints e.past, iv e.kind, iv e.action, iv e.gk, iv e.gi, iv e.ge, iv e.ga, iv e.to, iv e.place, iv e.serial, ints w.clock, it w.time, .ow u, mgs w.merged, ints w.places], stoR s m b v wn]⟩) (fun i => i ≤ a.eff.delta.length) (fun i => a.eff.delta.length - i) 0 xE (Nat.zero_le _) ?_
  intro i hi
  have hlen := addD_length (a.eff.delta.take i) w.state
  by_cases hil : i < a.eff.delta.length
  ·obtain ⟨p, hp⟩ := get_of hil
   obtain ⟨p1, p2⟩ := heo.d p (List.mem_of_getElem? hp)
   obtain ⟨z, hz⟩ := get_of (l := addD w.state (a.eff.delta.take i)) (i := p.1.toNat) (by omega)
   have hs := addD_succ (s := w.state) hp
   rw [show add1 (addD w.state (a.eff.delta.take i)) p = (addD w.state (a.eff.delta.take i)).set p.1.toNat (IntKind.i64.wrap (z + p.2)) by rw [add1, hz];rfl] at hs
   repeat' (first|refine Sp.h ?_|refine Lk.r rfl ?_|refine Rf.mk rfl ?_|refine xA ?_|refine OpK.r rfl ?_|refine All.mk fun _=>?_|refine xU ?_|refine xT ?_|refine xI ?_|(apply Ix.r;(focus assumption);(focus omega))|refine xJ ?_|refine Ch.l ⟨rfl, rfl⟩ ?_|(apply SetAsk.r;focus repeat' constructor)|refine xN ?_|refine xD ?_|fail)
   refine ⟨?_⟩
   repeat' (first|refine Sp.h ?_|refine Lk.r rfl ?_|refine Rf.mk rfl ?_|refine OpK.r rfl ?_|refine xU ?_|(apply Ix.r;(focus assumption);(focus omega))|refine xJ ?_|refine xV ?_|refine Up.r rfl ?_|refine xO ?_|fail)
   rw [← hs]
   exact PA.lp (i + 1) xE ⟨hil, by omega⟩
  ·have hie : i = a.eff.delta.length := by omega
   subst hie
   rw [List.take_length] at hlen ⊢
   by_cases hS : insS (addD w.state a.eff.delta)
   ·rw [decide_eq_true hS] at hin
    repeat' (first|refine Sp.h ?_|refine Lk.r rfl ?_|refine Rf.mk rfl ?_|refine xB ?_|refine xT ?_|fail)
    (apply Cl.lend (hin);(focus repeat' (first|exact Lend.nil|(apply Lend.lend;(focus repeat constructor);(focus first|omega|(simp;omega)))|fail)))
    (repeat' (first|(show CA _ _ (Code.region 11 _ _) _ _;apply Stopped.out)|refine Sp.h ?_|refine Lk.r rfl ?_|refine xA ?_|fail));any_goals apply Stopped.mk
    (apply CA.own;(focus (apply OX.blk (b := x);(focus repeat constructor);(focus (repeat' (first|exact FX.nil|(apply FX.s1;(focus repeat constructor);(focus first|omega|(simp;done)|(simp;omega)))|apply FX.k)));(focus repeat constructor))))
    repeat' (first|refine Sp.h ?_|refine Lk.r rfl ?_|refine Rf.mk rfl ?_|refine xN ?_|fail)
    exact ⟨_, _, .one (.same (.z)), .inr ⟨fun h => h.2 hS, rfl, rfl⟩⟩
   ·rw [decide_eq_false hS] at hin
    repeat' (first|refine Sp.h ?_|refine Lk.r rfl ?_|refine Rf.mk rfl ?_|refine xB ?_|refine xT ?_|fail)
    (apply Cl.lend (hin);(focus repeat' (first|exact Lend.nil|(apply Lend.lend;(focus repeat constructor);(focus first|omega|(simp;omega)))|fail)))
    repeat' (first|refine Sp.h ?_|refine Lk.r rfl ?_|refine Rf.mk rfl ?_|refine xB ?_|refine xN ?_|fail)
    exact ⟨_, _, .one (.same (.z)), .inl ⟨hk, hS, rfl, rfl⟩⟩
 ·have hadd : addE m w.state e = w.state := if_neg hk
  rw [hadd]
  refine CallA.of pg ord93 Tryz.func93 rfl Tryz.ntmps93 Tryz.results93 rfl fun h0 G0 O0 => ?_
  repeat' (first|refine Sp.h ?_|refine Lk.r rfl ?_|refine Rf.mk rfl ?_|refine xB ?_|refine xT ?_|refine xN ?_|fail)
  exact ⟨_, _, .one (.same (.z)), .inr ⟨fun h => hk h.1, rfl, rfl⟩⟩
theorem applyT_p (m : ModS) (l : List MgS) (e : EvS) (hm : MOK m) : CallP Tryz.prog 73 [mdl m, mgs l, evA' e] (.tup [mgs (applyF m l e).2, it (applyF m l e).1]) := by
 by_cases h0 : (applyF m l e).1 = 0
 ·obtain ⟨h1, _, h3, _, h5⟩ := applyF_ok h0
  have := h1.1
  have := hm.mrg
  have hF : applyF m l e = (0, (applyF m l e).2) := by rw [← h0]
  rw [h0]
  exact applyOK_p m l e _ hm hF (by omega) h5
 ·refine CallA.fx (apply_a m l e hm) ?_
  have h2 : (applyF m l e).2 = [] := by
   unfold applyF at h0 ⊢
   split
   ·rfl
   ·rename_i h1
    rw [if_neg h1] at h0
    split
    ·rename_i h2;rw [if_pos h2] at h0;exact absurd rfl h0
    ·rename_i h2
     rw [if_neg h2] at h0
     unfold gatherF at h0 ⊢
     split
     ·rfl
     ·rename_i h3
      rw [h3] at h0
      simp only at h0
      split
      ·rfl
      ·rename_i h4;rw [if_neg h4] at h0;exact absurd rfl h0
  rw [h2]
  rintro r o (⟨v, L, h, _⟩|⟨_, rfl, rfl⟩)
  ·exact absurd h h0
  ·exact .tup (FX.kn (FX.refl _)) .nil
theorem update_a (x s : Nat) (m : ModS) (b : NowS) (v : Value) (wn : NowS) (e : EvS) (w : NowS) (hm : MOK m) :
  CallA Tryz.prog 94 [pm x] [stpR x s e w, stoR s m b v wn] fun r own => r = it (applyF m w.merged e).1 ∧ own = [stpR x s e { w with merged := (applyF m w.merged e).2 }, stoR s m b v wn] := by
 have ha := applyT_p m w.merged e hm
 refine CallA.of pg ord94 Tryz.func94 rfl Tryz.ntmps94 Tryz.results94 rfl fun h0 G0 O0 => ?_
 repeat' (first|refine Sp.h ?_|refine Lk.r rfl ?_|refine Rf.mk rfl ?_|refine OpK.r rfl ?_|refine xT ?_|refine Ch.r ?_|refine xV ?_|refine xN ?_|refine xD ?_|(apply Cl.p (ha);focus repeat' constructor))
 exact ⟨_, _, .one (.same (.z)), rfl, rfl⟩
theorem place_a (x s : Nat) (e : EvS) (w : NowS) (hp : SrtI w.places) (hl : w.places.length ≤ 100000) :
  CallA Tryz.prog 95 [pm x] [stpR x s e w] fun r own => r = it 0 ∧ own = [stpR x s e { w with places := plE w.places e }] := by
 have hw := with_p w.places e.place hp hl
 by_cases h : 0 < e.place
 ·rw [show plE w.places e = withP w.places e.place from if_pos h]
  refine CallA.of pg ord95 Tryz.func95 rfl Tryz.ntmps95 Tryz.results95 rfl fun h0 G0 O0 => ?_
  repeat' (first|refine Sp.h ?_|refine Lk.r rfl ?_|refine Rf.mk rfl ?_|refine xA ?_|refine OpK.r rfl ?_|refine xT ?_|refine xV ?_|refine xN ?_|refine xD ?_|(apply Cl.p (hw);focus repeat' constructor))
  exact ⟨_, _, .one (.same (.z)), rfl, rfl⟩
 ·rw [show plE w.places e = w.places from if_neg h]
  refine CallA.of pg ord95 Tryz.func95 rfl Tryz.ntmps95 Tryz.results95 rfl fun h0 G0 O0 => ?_
  repeat' (first|refine Sp.h ?_|refine Lk.r rfl ?_|refine Rf.mk rfl ?_|refine xB ?_|refine xT ?_|refine xN ?_|(apply Cl.p (hw);(focus repeat' (first|fail))))
  exact ⟨_, _, .one (.same (.z)), rfl, rfl⟩
theorem svalid_p (s : Nat) (m : ModS) (b : NowS) (v : Value) (w : NowS) (e : EvS) :
  CallA Tryz.prog 41 [pm s, evA' e] [stoR s m b v w] fun r own => r = bl (decide (EvV m (w.clock.length : Nat) e)) ∧ own = [stoR s m b v w] := by
 have hv := evalid_p m (w.clock.length : Nat) e
 refine CallA.of pg ord41 Tryz.func41 rfl Tryz.ntmps41 Tryz.results41 rfl fun h0 G0 O0 => ?_
 repeat' (first|refine Sp.h ?_|refine Lk.r rfl ?_|refine Rf.mk rfl ?_|refine OpK.r rfl ?_|refine Im.mk fun _=>?_|refine All.mk fun _=>?_|refine xT ?_|refine Ch.l ⟨rfl, rfl⟩ ?_|refine Ch.r ?_|refine xN ?_|refine xD ?_|(apply Cl.p (hv);focus repeat' constructor))
 exact ⟨_, _, .one (.same (.z)), rfl, rfl⟩
end Go.Proofs.YtajenkpjcbaadaaGreat
namespace Go.CF
open Go
def AV.fb (f : FuncId) (bs : List AV) : AV := ⟨fun h G u => ∃ vs, u = .func (.func f) vs.toArray #[] ∧ RepT h G vs bs, by rintro h h' G v x ⟨vs, e, r⟩;exact ⟨vs, e, r.stp x⟩, by rintro h G G' v x ⟨vs, e, r⟩;exact ⟨vs, e, r.mono x⟩⟩
section
variable {Γ : Cx} {k : List KI} {e : EA} {o : List Res} {N : NA} {c : Cls} {d : Tmp} {ty : TypeId} {x y : Operand}
instance {f : FuncId} {bs : List AV} : OneA (.fb f bs) := ⟨by rintro h G u ⟨vs, rfl, _⟩;rfl⟩
instance {f : FuncId} : Sp (SA Γ c (some d) (.makeFunc (.func f) #[x] #[]) ty e o N) (Lk (evAs e [x]) fun cs => N ((d, .fb f cs) :: e) o) := ⟨fun ⟨cs, hcs, hn⟩ => ⟨fun env hp G Os c => by
 obtain ⟨vs, h1, h2⟩ := c.gets hcs
 exact St.makeFunc (l2 := []) h1 rfl (CN.mk (c.put d (a := .fb f cs) ⟨vs, rfl, h2⟩) hn)⟩⟩
instance {f : FuncId} {cs asx : List AV} {args : Array Operand} {tys : Array TypeId} : Sp (ClF Γ c d x args tys ty e o N (.fb f cs) asx) (Rf (Γ.fp.n = none) (Rf (Γ.en f = true) (Cl Γ c f (cs ++ asx) o fun r o' => N ((d, r) :: e) o'))) := ⟨fun ⟨hfp, he, h⟩ => ⟨fun ha hb hc => ⟨fun env hh G Os cn => by
 obtain ⟨v, g1, ws, rfl, g2⟩ := cn.get ha
 obtain ⟨vs, g3, g4⟩ := cn.gets hb
 exact St.callT (cap := []) Γ.ok g1 g3 he hc (by rw [List.append_nil];exact (cl_sa (dst := some d) cn (g2.app g4) hfp h).mono fun v h' hk => hk.2)⟩⟩⟩
end
end Go.CF
namespace Go.Proofs.YtajenkpjcbaadaaGreat
open Go Go.CF
set_option maxRecDepth 20000
structure NowOK (m : ModS) (w : NowS) : Prop where
 clk : ValC w.clock
 st : w.state.length = strF m
 pls : SrtI w.places
 pll : w.places.length ≤ 100000
noncomputable def evsD (m : ModS) (evs : List EvS) (w : NowS) (e : EvS) : List EvS := if (deliverF m evs w e).1 = 0 then evs ++ [e] else evs
noncomputable def wI (m : ModS) (w : NowS) (e : EvS) : Nat → NowS
 | 0 => w
 | 1 => { w with clock := cntF w.clock e }
 | 2 => { w with clock := cntF w.clock e, time := max w.time e.time }
 | 3 => { w with clock := cntF w.clock e, time := max w.time e.time, state := addE m w.state e }
 | 4 => { w with clock := cntF w.clock e, time := max w.time e.time, state := addE m w.state e, merged := (applyF m w.merged e).2 }
 | _ => ⟨cntF w.clock e, max w.time e.time, addE m w.state e, (applyF m w.merged e).2, plE w.places e⟩
def fnL (x : Nat) : List (List AV) := [[AV.fb 91 [pm x]], [AV.fb 92 [pm x]], [AV.fb 93 [pm x]], [AV.fb 94 [pm x]], [AV.fb 95 [pm x]]]
theorem act_rng {e : EvS} (h : FormedE e) (hk : e.kind = 0) : 0 ≤ e.action := by
 have := (kind0 hk).1 h.2.2.2.2.2
 unfold Sub0 Btw at this
 omega
set_option maxHeartbeats 8000000 in
theorem deliver_a (s : Nat) (m : ModS) (b : NowS) (v : Value) (evl : List EvS) (w : NowS) (e : EvS) (hm : MOK m) (hw : NowOK m w) (hl : evl.length ≤ 100000) :
  CallA Tryz.prog 43 [pm s, evA' e] [stoR s m b v w, arrR v 40 13 evl evC] fun r own => r = it (deliverF m evl w e).1 ∧ ∃ v', own = [stoR s m b v' (deliverF m evl w e).2, arrR v' 40 13 (evsD m evl w e) evC] := by
 have hva := svalid_p s m b v w e
 by_cases h1 : EvV m (w.clock.length : Nat) e
 rotate_left
 ·have hF : deliverF m evl w e = (1, w) := by rw [deliverF, if_pos h1]
  rw [decide_eq_false h1] at hva
  rw [evsD, hF]
  refine CallA.of pg ord43 Tryz.func43 rfl Tryz.ntmps43 Tryz.results43 rfl fun h0 G0 O0 => ?_
  repeat' (first|refine Sp.h ?_|refine Lk.r rfl ?_|refine Rf.mk rfl ?_|refine All.mk fun _=>?_|refine xT ?_|refine Ch.l ⟨rfl, rfl⟩ ?_|fail)
  refine xW (hva) ?_
  rintro _ _ ⟨rfl, rfl⟩
  repeat' (first|refine Sp.h ?_|refine Lk.r rfl ?_|refine Rf.mk rfl ?_|refine xB ?_|refine xN ?_|fail)
  exact ⟨_, _, .one (.same (.z)), rfl, v, rfl⟩
 rw [decide_eq_true h1] at hva
 have hn := name35_p e
 have hh := hasC_p w.clock e.rep e.num
 by_cases h2 : HasC w.clock e.rep e.num
 ·have hF : deliverF m evl w e = (6, w) := by rw [deliverF, if_neg (fun h => h h1), if_pos h2]
  rw [decide_eq_true h2] at hh
  rw [evsD, hF]
  refine CallA.of pg ord43 Tryz.func43 rfl Tryz.ntmps43 Tryz.results43 rfl fun h0 G0 O0 => ?_
  repeat' (first|refine Sp.h ?_|refine Lk.r rfl ?_|refine Rf.mk rfl ?_|refine All.mk fun _=>?_|refine xT ?_|refine Ch.l ⟨rfl, rfl⟩ ?_|fail)
  refine xW (hva) ?_
  rintro _ _ ⟨rfl, rfl⟩
  repeat' (first|refine Sp.h ?_|refine Lk.r rfl ?_|refine Rf.mk rfl ?_|refine xA ?_|refine OpK.r rfl ?_|refine xT ?_|refine Ch.l ⟨rfl, rfl⟩ ?_|refine xN ?_|refine xD ?_|(apply Cl.p (hn);focus (repeat' constructor);done)|(apply Cl.p (hh);focus (repeat' constructor);done))
  exact ⟨_, _, .one (.same (.z)), rfl, v, rfl⟩
 rw [decide_eq_false h2] at hh
 have hmi := missing_o w.clock e.past
 have hal : AlikeC [w.clock, e.past] := (alike2 _ _).2 ⟨hw.clk, h1.1.1, by have := h1.2.1;omega⟩
 by_cases h3 : Ins e.past w.clock
 rotate_left
 ·have hF : deliverF m evl w e = (9, w) := by rw [deliverF, if_neg (fun h => h h1), if_neg h2, if_pos h3]
  rw [evsD, hF]
  refine CallA.of pg ord43 Tryz.func43 rfl Tryz.ntmps43 Tryz.results43 rfl fun h0 G0 O0 => ?_
  repeat' (first|refine Sp.h ?_|refine Lk.r rfl ?_|refine Rf.mk rfl ?_|refine All.mk fun _=>?_|refine xT ?_|refine Ch.l ⟨rfl, rfl⟩ ?_|fail)
  refine xW (hva) ?_
  rintro _ _ ⟨rfl, rfl⟩
  repeat' (first|refine Sp.h ?_|refine Lk.r rfl ?_|refine Rf.mk rfl ?_|refine xA ?_|refine OpK.r rfl ?_|refine xT ?_|refine Ch.l ⟨rfl, rfl⟩ ?_|refine xD ?_|(apply Cl.p (hn);focus (repeat' constructor);done)|(apply Cl.p (hh);focus (repeat' constructor);done))
  refine xW (hmi) ?_
  rintro _ _ ⟨u, l, rfl, rfl, hl1, hl2⟩
  have hl0 : 0 < l.length := List.length_pos_iff.2 fun h => h3 (hl1.1 h hal)
  repeat' (first|refine Sp.h ?_|refine Lk.r rfl ?_|refine Rf.mk rfl ?_|refine xA ?_|refine OpK.r rfl ?_|refine xU ?_|refine xN ?_|fail)
  exact ⟨_, _, .one (.same (.z)), rfl, v, rfl⟩
 have hrep : 0 ≤ e.rep ∧ e.rep.toNat < w.clock.length := by
  obtain ⟨_, f2, ⟨x, f3, _⟩, _⟩ := h1.1
  have := (List.getElem?_eq_some_iff.1 f3).1
  exact ⟨f2, by have := h1.2.1;omega⟩
 have hcl := hw.clk.2.2
 have hc4 : ∀ k, (wI m w e k).places = w.places ∨ 5 ≤ k := fun k => by
  match k with
  | 0 => exact .inl rfl
  | 1 => exact .inl rfl
  | 2 => exact .inl rfl
  | 3 => exact .inl rfl
  | 4 => exact .inl rfl
  | k + 5 => exact .inr (by omega)
 refine CallA.of pg ord43 Tryz.func43 rfl Tryz.ntmps43 Tryz.results43 rfl fun h0 G0 O0 => ?_
 repeat' (first|refine Sp.h ?_|refine Lk.r rfl ?_|refine Rf.mk rfl ?_|refine All.mk fun _=>?_|refine xT ?_|refine Ch.l ⟨rfl, rfl⟩ ?_|fail)
 rename_i b3
 refine xW (hva) ?_
 rintro _ _ ⟨rfl, rfl⟩
 repeat' (first|refine Sp.h ?_|refine Lk.r rfl ?_|refine Rf.mk rfl ?_|refine xA ?_|refine OpK.r rfl ?_|refine xT ?_|refine Ch.l ⟨rfl, rfl⟩ ?_|refine xD ?_|(apply Cl.p (hn);focus (repeat' constructor);done)|(apply Cl.p (hh);focus (repeat' constructor);done))
 refine xW (hmi) ?_
 rintro _ _ ⟨u, l, rfl, rfl, hl1, hl2⟩
 have hl0 : l.length = 0 := by rw [hl1.2 fun _ => h3];rfl
 repeat' (first|refine Sp.h ?_|refine Lk.r rfl ?_|refine Rf.mk rfl ?_|refine xB ?_|refine OpK.r rfl ?_|refine All.mk fun _=>?_|refine xU ?_|refine xT ?_|refine Ch.l ⟨rfl, rfl⟩ ?_|refine Ch.r ?_|(apply Fk.r;focus repeat' first|infer_instance|constructor)|refine Rf.mk ⟨rfl, rfl, rfl⟩ ?_|refine xD ?_|fail)
 rename_i x q
 refine CA.loop (fun i : Nat => ⟨[(0, pm s), (3, pm b3), (5, pm x), (52, .ow q), (53, it 5), (54, it i)], [stoR s m b v w, arrR v 40 13 evl evC, blkR b3 40 (evC e), stpR x s e (wI m w e i), arrR q 165 1 (fnL x) id]⟩)
  (fun i => i ≤ 5 ∧ (2 ≤ i → ¬ LateE evl e) ∧ (3 ≤ i → ¬ (e.kind = 0 ∧ ¬ insS (addE m w.state e))) ∧ (4 ≤ i → (applyF m w.merged e).1 = 0)) (fun i => 5 - i) 0 xE ⟨by omega, fun h => by omega, fun h => by omega, fun h => by omega⟩ ?_
 rintro i ⟨hi, i2, i3, i4⟩
 match i, hi with
 | 0, _ =>
  have hq : (fnL x)[0]? = some [AV.fb 91 [pm x]] := rfl
  have hc := count_a x s e w hrep.1 hrep.2 hcl
  repeat' (first|refine Sp.h ?_|refine Lk.r rfl ?_|refine Rf.mk rfl ?_|refine xA ?_|refine xU ?_|refine xI ?_|refine xJ ?_|fail)
  refine xW (hc) ?_
  rintro _ _ ⟨rfl, rfl⟩
  repeat' (first|refine Sp.h ?_|refine Lk.r rfl ?_|refine Rf.mk rfl ?_|refine xA ?_|refine xO ?_|fail)
  exact PA.lp 1 xE ⟨⟨by omega, fun h => by omega, fun h => by omega, fun h => by omega⟩, by omega⟩
 | 1, _ =>
  have hq : (fnL x)[1]? = some [AV.fb 92 [pm x]] := rfl
  have hc := order_a x s m b v evl w e (wI m w e 1) (by omega)
  repeat' (first|refine Sp.h ?_|refine Lk.r rfl ?_|refine Rf.mk rfl ?_|refine xA ?_|refine xU ?_|refine xI ?_|refine xJ ?_|fail)
  refine xW (hc) ?_
  rintro _ _ (⟨hL, rfl, rfl⟩|⟨hL, rfl, rfl⟩)
  ·have hF : deliverF m evl w e = (2, w) := by rw [deliverF, if_neg (fun h => h h1), if_neg h2, if_neg (fun h => h h3), if_pos hL]
   rw [evsD, hF]
   repeat' (first|refine Sp.h ?_|refine Lk.r rfl ?_|refine Rf.mk rfl ?_|refine xB ?_|refine xN ?_|fail)
   exact ⟨_, _, .one (.same (.z)), rfl, v, rfl⟩
  ·repeat' (first|refine Sp.h ?_|refine Lk.r rfl ?_|refine Rf.mk rfl ?_|refine xA ?_|refine xO ?_|fail)
   exact PA.lp 2 xE ⟨⟨by omega, fun _ => hL, fun h => by omega, fun h => by omega⟩, by omega⟩
 | 2, _ =>
  have hq : (fnL x)[2]? = some [AV.fb 93 [pm x]] := rfl
  have hL := i2 (by omega)
  have hc := sadd_a x s m b v w e (wI m w e 2) hm hw.st (fun hk => ⟨act_rng h1.1 hk, h1.2.2 hk⟩)
  repeat' (first|refine Sp.h ?_|refine Lk.r rfl ?_|refine Rf.mk rfl ?_|refine xA ?_|refine xU ?_|refine xI ?_|refine xJ ?_|fail)
  refine xW (hc) ?_
  rintro _ _ (⟨hk, hL2, rfl, rfl⟩|⟨hL2, rfl, rfl⟩)
  ·have hF : deliverF m evl w e = (2, w) := by rw [deliverF, if_neg (fun h => h h1), if_neg h2, if_neg (fun h => h h3), if_neg hL, if_pos ⟨hk, hL2⟩]
   rw [evsD, hF]
   repeat' (first|refine Sp.h ?_|refine Lk.r rfl ?_|refine Rf.mk rfl ?_|refine xB ?_|refine xN ?_|fail)
   exact ⟨_, _, .one (.same (.z)), rfl, v, rfl⟩
  ·repeat' (first|refine Sp.h ?_|refine Lk.r rfl ?_|refine Rf.mk rfl ?_|refine xA ?_|refine xO ?_|fail)
   exact PA.lp 3 xE ⟨⟨by omega, fun _ => hL, fun _ => hL2, fun h => by omega⟩, by omega⟩
 | 3, _ =>
  have hq : (fnL x)[3]? = some [AV.fb 94 [pm x]] := rfl
  have hL := i2 (by omega)
  have hL2 := i3 (by omega)
  have hc := update_a x s m b v w e (wI m w e 3) hm
  by_cases hA : (applyF m w.merged e).1 = 0
  ·repeat' (first|refine Sp.h ?_|refine Lk.r rfl ?_|refine Rf.mk rfl ?_|refine xA ?_|refine xU ?_|refine xI ?_|refine xJ ?_|fail)
   refine xW (hc) ?_
   rintro _ _ ⟨rfl, rfl⟩
   simp only [wI]
   repeat' (first|refine Sp.h ?_|refine Lk.r rfl ?_|refine Rf.mk rfl ?_|refine xA ?_|refine xO ?_|fail)
   exact PA.lp 4 xE ⟨⟨by omega, fun _ => hL, fun _ => hL2, fun _ => hA⟩, by omega⟩
  ·have hF : deliverF m evl w e = ((applyF m w.merged e).1, w) := by rw [deliverF, if_neg (fun h => h h1), if_neg h2, if_neg (fun h => h h3), if_neg hL, if_neg hL2, if_pos hA]
   rw [evsD, hF]
   repeat' (first|refine Sp.h ?_|refine Lk.r rfl ?_|refine Rf.mk rfl ?_|refine xA ?_|refine xU ?_|refine xI ?_|refine xJ ?_|fail)
   refine xW (hc) ?_
   rintro _ _ ⟨rfl, rfl⟩
   simp only [wI]
   rw [if_neg hA]
   repeat' (first|refine Sp.h ?_|refine Lk.r rfl ?_|refine Rf.mk rfl ?_|refine xB ?_|refine xN ?_|fail)
   exact ⟨_, _, .one (.same (.z)), rfl, v, rfl⟩
 | 4, _ =>
  have hq : (fnL x)[4]? = some [AV.fb 95 [pm x]] := rfl
  have hc := place_a x s e (wI m w e 4) hw.pls hw.pll
  repeat' (first|refine Sp.h ?_|refine Lk.r rfl ?_|refine Rf.mk rfl ?_|refine xA ?_|refine xU ?_|refine xI ?_|refine xJ ?_|fail)
  refine xW (hc) ?_
  rintro _ _ ⟨rfl, rfl⟩
  repeat' (first|refine Sp.h ?_|refine Lk.r rfl ?_|refine Rf.mk rfl ?_|refine xA ?_|refine xO ?_|fail)
  exact PA.lp 5 xE ⟨⟨by omega, fun _ => i2 (by omega), fun _ => i3 (by omega), fun _ => i4 (by omega)⟩, by omega⟩
 | 5, _ =>
  have hL := i2 (by omega)
  have hL2 := i3 (by omega)
  have hA := i4 (by omega)
  have hF : deliverF m evl w e = (0, wI m w e 5) := by rw [deliverF, if_neg (fun h => h h1), if_neg h2, if_neg (fun h => h h3), if_neg hL, if_neg hL2, if_neg (fun h => h hA)];rfl
  have hpl := h1.1.1.2.2
  have hce := cloneEs_p [e] (by simp) (fun d hd => by rw [List.mem_singleton.1 hd];omega)
  rw [evsD, hF, if_pos rfl]
  repeat' (first|refine Sp.h ?_|refine Lk.r rfl ?_|refine Rf.mk rfl ?_|refine xB ?_|refine OpK.r rfl ?_|refine All.mk fun _=>?_|refine xT ?_|refine Ch.l ⟨rfl, rfl⟩ ?_|refine Ch.r ?_|(apply SetAsk.r;focus repeat' constructor)|(apply Fk.r;focus repeat' first|infer_instance|constructor)|refine Rf.mk ⟨rfl, rfl, rfl⟩ ?_|refine xD ?_|fail)
  apply Cl.fx [evs [e]]
  focus (apply FX.sl;(focus repeat constructor);(focus exact Nat.le_of_ble_eq_true rfl);(focus exact FX.le (ALe.refl _) FX.nil);(focus exact FX.nil))
  repeat' (first|refine Sp.h ?_|refine Lk.r rfl ?_|refine Rf.mk rfl ?_|refine OpK.r rfl ?_|refine xP ?_|refine All.mk fun _=>?_|refine xU ?_|refine xT ?_|refine Ce.r ?_|refine xV ?_|refine xN ?_|refine Rf.mk ⟨rfl, rfl⟩ ?_|refine Mp.same ?_|(apply Cl.p (hce);focus repeat' constructor))
  exact ⟨_, _, .one (.same (.z)), rfl, _, rfl⟩
end Go.Proofs.YtajenkpjcbaadaaGreat
namespace Go.CF
open Go
section
variable {Γ : Cx} {k : List KI} {e : EA} {o : List Res} {N : NA} {c : Cls} {d : Tmp} {ty : TypeId} {x y z : Operand} {t u : TypeId} {kk : IntKind} {i : Int}
instance {v : Value} {s j m : Nat} : Sp (Ap1 Γ c d (.call { callee := .builtin .len, args := #[x], argTypes := #[t] }) ty e o N x (.os v s j m)) (Lk (slE Γ.tt t) fun _ => N ((d, .val (.int .i64 (m : Int))) :: e) o) := ⟨fun ⟨p, hp, hn⟩ => ⟨fun ha => ⟨fun env hh G Os cn => by
 obtain ⟨w, h1, q, len, cap, rfl, hle, rfl⟩ := cn.get ha
 obtain ⟨ti, t1, t2, t3⟩ := slE_spec hp
 exact St.len Γ.ok t1 t2 h1 (CN.mk (cn.put d (a := .val _) rfl) hn)⟩⟩⟩
instance {v : Value} {s j m : Nat} : Sp (Ap2 Γ c d (.indexAddr t x y) ty e o N x (.os v s j m) y (.val (.int kk i))) (Lk (slE Γ.tt t) fun p => TkA o v fun _ sz _ _ _ => Rf (p.2.size = sz ∧ s = sz) (Sx i m fun q => N ((d, .oe v sz (j + q) 0) :: e) o)) := ⟨fun ⟨p, hp, α, T, sz, l, f, rest, tk, hz, q, hi, hq, hn⟩ => ⟨fun ha hb => ⟨fun env hh G Os cn => by
 obtain ⟨hz, rfl⟩ := hz
 obtain ⟨w, h1, q', len, cap, rfl, hle, rfl⟩ := cn.get ha
 obtain ⟨w', h1', h2'⟩ := cn.get hb
 have hw : w' = .int kk i := h2'
 subst hw
 obtain ⟨O, Os', cn2⟩ := cn.take tk
 obtain ⟨⟨_, rows, hw, _⟩, _⟩ := cn2.hp.own
 obtain ⟨ti, t1, t2, t3⟩ := slE_spec hp
 rcases hw.ok with ⟨he, h0⟩|⟨b, of, cap', L, he, _, _, hcap, _⟩
 ·cases he;omega
 ·cases he
  have hs : subA (some ⟨b, of, none⟩) s j cap = some ⟨b, of + j * s, none⟩ := by
   unfold subA
   rw [if_neg (by omega)]
   simp [addr_add]
  rw [hs] at h1
  exact St.indexAddr Γ.ok t1 t2 t3 h1 h1' hi hq (CN.mk (cn.put d (a := .oe _ s (j + q) 0) ⟨b, of, _, cap, rfl, by rw [hz, Nat.add_zero, Nat.add_mul, Nat.add_assoc]⟩) hn)⟩⟩⟩
theorem ALe.tup {l m : List AV} (r : RLe l m) : ALe (.tup l) (.tup m) := ⟨fun ⟨vs, h1, h2⟩ => ⟨vs, h1, r.rep h2⟩⟩
theorem ALe.agg {l m : List AV} (r : RLe l m) : ALe (.agg l) (.agg m) := ⟨fun ⟨vs, h1, h2⟩ => ⟨vs, h1, ⟨r.rep h2.t, h2.one⟩⟩⟩
end

/-! ### The library's sorts -/
section
open Go.Sort
theorem putCells_list {α : Type} [Inhabited α] (enc : α → Value) (o : Nat) (d : List α) (c : List Value) (hd : o + d.length ≤ c.length) :
  putCells enc o d.toArray c.toArray = (c.take o ++ d.map enc ++ c.drop (o + d.length)).toArray := by
 apply Array.ext'
 simp only [putCells]
 refine List.ext_getElem? fun q => ?_
 simp only [Array.toList_mapIdx, List.getElem?_mapIdx, List.size_toArray]
 by_cases g1 : q < o
 ·have h2 : q < c.length := by omega
  rw [List.append_assoc, List.getElem?_append_left (by simp;omega), List.getElem?_take, if_pos g1, List.getElem?_eq_getElem h2, Option.map_some, if_neg (by omega)]
 ·by_cases g2 : q < o + d.length
  ·have h2 : q < c.length := by omega
   have h3 : q - o < d.length := by omega
   rw [List.getElem?_append_left (by simp;omega), List.getElem?_append_right (by simp;omega), List.getElem?_eq_getElem h2, Option.map_some, if_pos (by omega), List.length_take, Nat.min_eq_left (by omega), List.getElem?_map, List.getElem?_eq_getElem h3]
   simp [getElem!_pos, h3]
  ·rw [List.getElem?_append_right (by simp;omega), List.getElem?_drop]
   simp only [List.length_append, List.length_take, List.length_map, Nat.min_eq_left (show o ≤ c.length by omega)]
   rw [show o + d.length + (q - (o + d.length)) = q by omega]
   cases hq : c[q]? with
   | none => rfl
   | some x => rw [Option.map_some, if_neg (by omega)]
theorem flat_one {α β : Type} (g : α → β) : ∀ l : List α, (l.map fun x => [g x]).flatten = l.map g
 | [] => rfl
 | a :: l => by simp [flat_one g l]
theorem put_own {α : Type} [Inhabited α] {enc : α → Value} {w w' : World} {b of n cap len T sz : Nat} {L : List Value} {ds : List α} {os : Array Obj} (hb : Blk w.heap b T L) (ho : of + cap * sz ≤ L.length) (hlen : len ≤ cap) (hd : ds.length = len * sz)
  (hw' : w' = Sort.grow (putRow enc (Sort.ahead w n) b of ds.toArray) os) :
  Same w w' ∧ FPx (fun x => ¬ x = b) w.heap w'.heap ∧ Own w'.heap (.slice (some ⟨b, of, none⟩) len cap) T sz len (ds.map enc) := by
 have hm : len * sz ≤ cap * sz := Nat.mul_le_mul_right _ hlen
 have hg := hb.get
 have hlt := (Array.getElem?_eq_some_iff.1 hg).1
 have hh : w'.heap = w.heap.modify b (onCells (putCells enc of ds.toArray)) ++ os := by rw [hw'];rfl
 refine ⟨⟨by subst hw';rfl, by subst hw';rfl, by subst hw';rfl, by subst hw';exact Nat.le_add_right _ _, by rw [hh];simp, fun k o hk ho => ?_⟩, ⟨?_, fun q hq hl => ?_⟩, by simp [hd], .inr ⟨b, of, cap, L.take of ++ ds.map enc ++ L.drop (of + ds.length), rfl, ⟨?_⟩, ?_, hlen, ?_⟩⟩
 ·have hkl := (Array.getElem?_eq_some_iff.1 hk).1
  rw [hh, Array.getElem?_append_left (by simpa using hkl), Array.getElem?_modify]
  by_cases hkb : b = k
  ·subst hkb;rw [hg] at hk;cases hk;cases ho
  ·rw [if_neg hkb];exact hk
 ·rw [hh];simp
 ·rw [hh, Array.getElem?_append_left (by simpa using hl), Array.getElem?_modify, if_neg (fun e => hq e.symm)]
 ·rw [hh, Array.getElem?_append_left (by simpa using hlt), Array.getElem?_modify, if_pos rfl, hg, Option.map_some]
  simp only [onCells]
  rw [putCells_list enc of ds L (by omega)]
 ·simp only [List.length_append, List.length_take, List.length_map, List.length_drop]
  omega
 ·rw [List.append_assoc, List.drop_append_of_le_length (by simp;omega), List.drop_eq_nil_of_le (by simp;omega), List.nil_append, List.take_append_of_le_length (by simp;omega), List.take_of_length_le (by simp;omega)]
theorem holds_blk {w : World} {b of T : Nat} {L : List Value} (hb : Blk w.heap b T L) {α : Type} [Inhabited α] (enc : α → Value) (ds : List α) (hd : (L.drop of).take ds.length = ds.map enc) : Holds enc w b of ds.toArray := by
 intro j hj
 have hj : j < ds.length := by simpa using hj
 have h1 : ((L.drop of).take ds.length)[j]? = some (enc ds[j]) := by rw [hd];simp [hj]
 rw [List.getElem?_take, if_pos hj, List.getElem?_drop] at h1
 have hg := hb.get
 constructor
 ·simp only [World.cell?, hg]
  simp [h1, hj]
 ·simp [World.frozen?, hg]
open Go.Proofs in
theorem sortI_a {P : Program} {ρ : Shelf.Ren} (L : Lays.n189 P ρ) (v : Value) (T : TypeId) (l : List Int) (hl : l.length ≤ 1000000) :
  CallA P (ρ.f 189) [.ow v] [arrR v T 1 l fun x => [.val (.int .i64 x)]] fun r own => r = .tup [] ∧ own = [arrR v T 1 (l.mergeSort fun x y => decide (x ≤ y)) fun x => [.val (.int .i64 x)]] := by
 refine ⟨fun h G Os vs hr hp => ?_⟩
 match vs, hr with
 | [w0], ⟨⟨h1, p, len, cap, h2⟩, _⟩ =>
  subst h1
  match Os, hp with
  | [O], hp =>
   obtain ⟨⟨hO, rows, hown, hrows⟩, _⟩ := hp.own
   have hflat : rows.flatten = l.map (Value.int .i64) := by
    have h3 : rows = l.map fun x => [Value.int .i64 x] := by
     refine List.ext_getElem? fun q => ?_
     rw [List.getElem?_map]
     cases hq : l[q]? with
     | none =>
      have := List.getElem?_eq_none_iff.1 hq
      have := hrows.len
      rw [List.getElem?_eq_none (by omega)];rfl
     | some x =>
      obtain ⟨row, g1, g2, _⟩ := hrows.at hq
      rw [g1]
      have : row = [Value.int .i64 x] := repT_val (r := [.int .i64 x]) g2.t
      rw [this];rfl
    rw [h3, flat_one]
   have fin : ∀ rows', rows' = (l.mergeSort fun x y => decide (x ≤ y)).map (fun x => [Value.int .i64 x]) → ∀ h' G', Rows h' G' 1 rows' (l.mergeSort fun x y => decide (x ≤ y)) fun x => [AV.val (.int .i64 x)] := by
    rintro _ rfl h' G'
    refine ⟨by simp, fun q r x g1 g2 => ?_, fun r hr => ?_⟩
    ·rw [List.getElem?_map, g2] at g1
     cases g1
     exact ⟨⟨rfl, trivial⟩, by simp [Value.oneCell']⟩
    ·obtain ⟨x, _, rfl⟩ := List.mem_map.1 hr;rfl
   have hff : ∀ s : List Int, (s.map fun x => [Value.int .i64 x]).flatten = s.map (Value.int .i64) := fun s => flat_one _ s
   rw [hflat] at hown
   refine ⟨fun w hw => ?_⟩
   subst hw
   rcases hown.ok with ⟨he, h0⟩|⟨b, of, cap', L', he, hb, h3, h4, h5⟩
   ·have hl0 : l = [] := List.eq_nil_of_length_eq_zero h0
    subst hl0
    subst he
    refine (Any.slices_Sort_int_none L none 0 w).mono ?_
    rintro e w' ⟨rfl, rfl⟩
    exact ⟨_, rfl, Same.refl _, .tup [], _, G, [O], ⟨rfl, rfl⟩, ⟨[], rfl, trivial⟩, ⟨⟨⟨hO, rows, by rw [hflat];simpa using hown, by simpa using hrows⟩, trivial⟩, hp.g, hp.g0, hp.o, hp.d, hp.fp⟩⟩
   ·subst he
    rw [Nat.mul_one] at h3 h5
    have hH := holds_blk hb (Value.int .i64) l (by simpa using h5)
    refine (calls_of_every_depth fun D => AnyS.slices_Sort_int_in L.lead D b of cap' l w hH hb.lt (by omega)).mono ?_
    rintro e w' ⟨rfl, n, os, hw'⟩
    obtain ⟨k1, k2, k3⟩ := put_own (ds := l.mergeSort fun x y => decide (x ≤ y)) (sz := 1) (len := l.length) (cap := cap') hb (by omega) h4 (by simp) hw'
    have hOb : ∀ x, O x ↔ x = b := fun x => by rw [hO];simp [blkOf]
    have k2' : FPx (fun x => ¬ O x) w.heap w'.heap := k2.mono fun x hx e => hx ((hOb x).2 e)
    obtain ⟨k4, _⟩ := hp.upd (R' := arrR (.slice (some ⟨b, of, none⟩) l.length cap') T 1 (l.mergeSort fun x y => decide (x ≤ y)) fun x => [.val (.int .i64 x)]) (O' := O) k2'
     (fun x hx => ⟨Nat.lt_of_lt_of_le (hp.o O (by simp) x hx).1 k2.size, .inl hx⟩)
     ⟨hO, _, by rw [hff];simpa using k3, fin _ rfl _ _⟩
    exact ⟨_, rfl, k1, .tup [], _, G, [O], ⟨rfl, rfl⟩, ⟨[], rfl, trivial⟩, k4⟩
end
end Go.CF
namespace Go.Proofs.YtajenkpjcbaadaaGreat
open Go Go.CF
set_option maxRecDepth 20000
structure SzN (b : NowS) : Prop where
 c : b.clock.length ≤ 100000
 s : b.state.length ≤ 100000
 m : b.merged.length ≤ 100000
 k : ∀ g ∈ b.merged, g.marks.length ≤ 1000000
 p : b.places.length ≤ 100000
set_option maxHeartbeats 2000000 in
theorem cloneBase_a (b : NowS) (r s : AV) (h : SzN b) :
  CallA Tryz.prog 71 [.agg [ints b.clock, it b.time, ints b.state, mgs b.merged, r, s, ints b.places]] [] fun q own => ∃ v1 v2 v3 L v4, q = .agg [.ow v1, it b.time, .ow v2, .ow v3, nl0, nl0, .ow v4] ∧ L.map MgE.g = b.merged ∧
   own = [arrR v4 3 1 b.places intC, arrR v3 194 3 L mgeC, bunR (L.map mgeR), arrR v2 3 1 b.state intC, arrR v1 3 1 b.clock intC] := by
 have h1 := clone_o b.clock (by have := h.c;omega)
 have h2 := clone_o b.state (by have := h.s;omega)
 have h3 := cloneM_a b.merged (by have := h.m;omega) h.k
 have h4 := clone_o b.places (by have := h.p;omega)
 refine CallA.of pg ord71 Tryz.func71 rfl Tryz.ntmps71 Tryz.results71 rfl fun h0 G0 O0 => ?_
 repeat' (first|refine Sp.h ?_|refine Lk.r rfl ?_|refine Rf.mk rfl ?_|refine OpK.r rfl ?_|refine All.mk fun _=>?_|refine xT ?_|refine xN ?_|refine xD ?_|fail)
 (refine Cl.use (h1) (by repeat' (first|exact Lend.nil|apply Lend.keep|fail)) .nil rfl ?_;rintro _ _ ⟨_, rfl, rfl⟩)
 repeat' (first|refine Sp.h ?_|refine Lk.r rfl ?_|refine Rf.mk rfl ?_|refine OpK.r rfl ?_|fail)
 (refine Cl.use (h2) (by repeat' (first|exact Lend.nil|apply Lend.keep|fail)) .nil rfl ?_;rintro _ _ ⟨_, rfl, rfl⟩)
 repeat' (first|refine Sp.h ?_|refine Lk.r rfl ?_|refine Rf.mk rfl ?_|refine OpK.r rfl ?_|fail)
 refine xW (h3) ?_
 rintro _ _ ⟨v3, L, rfl, hL, rfl⟩
 repeat' (first|refine Sp.h ?_|refine Lk.r rfl ?_|refine Rf.mk rfl ?_|refine OpK.r rfl ?_|fail)
 (refine Cl.use (h4) (by repeat' (first|exact Lend.nil|apply Lend.keep|fail)) .nil rfl ?_;rintro _ _ ⟨_, rfl, rfl⟩)
 repeat' (first|refine Sp.h ?_|refine Lk.r rfl ?_|refine Rf.mk rfl ?_|refine OpK.r rfl ?_|refine xT ?_|(apply SetAsk.r;focus repeat' constructor)|(apply Fk.r;focus repeat' first|infer_instance|constructor)|refine xN ?_|fail)
 exact ⟨_, _, .one (.same (.z)), _, _, _, L, _, rfl, hL, rfl⟩
theorem cloneBase_p (b : NowS) (r s : AV) (h : SzN b) : CallP Tryz.prog 71 [.agg [ints b.clock, it b.time, ints b.state, mgs b.merged, r, s, ints b.places]] (basA b) := by
 refine CallA.fx (cloneBase_a b r s h) ?_
 rintro q o ⟨v1, v2, v3, L, v4, rfl, hL, rfl⟩
 have := h.c;have := h.s;have := h.m;have := h.p
 have hk : ∀ x ∈ L, x.marks.length ≤ 1000000 := fun x hx => h.k x.g (by rw [← hL];exact List.mem_map_of_mem hx)
 have hLl : L.length ≤ 1000000 := by have := congrArg List.length hL;simp at this;omega
 rw [show basA b = .agg [ints b.clock, it b.time, ints b.state, mgs (L.map MgE.g), nl0, nl0, ints b.places] by rw [hL]]
 refine .agg ?_ .nil
 refine FX.s1 (T := 3) (by repeat constructor) (by omega) (FX.k (FX.s1 (T := 3) (by repeat constructor) (by omega) ?_))
 refine out_fx2 (by repeat constructor) (by repeat constructor) hLl hk (FX.k (FX.k (FX.s1 (T := 3) (by repeat constructor) (by omega) .nil)))
set_option maxHeartbeats 2000000 in
theorem open_a (m : ModS) (b : NowS) (r s : AV) (h : SzN b) :
  CallA Tryz.prog 83 [mdl m, .agg [ints b.clock, it b.time, ints b.state, mgs b.merged, r, s, ints b.places]] [] fun q own => ∃ p v, q = pm p ∧ own = [stoR p m b v b, arrR v 40 13 ([] : List EvS) evC] := by
 have h1 := cloneBase_p b r s h
 have h2 := cloneBase_p b nl0 nl0 h
 refine CallA.own (K := fun q own => ∃ p, q = pm p ∧ own = [blkR p 134 [ints m.sorts, tbls m.tables, .sl 1 m.families strC, .sl 6 m.cons cnsC, .sl 3 m.ops opC, .sl 5 m.acts actC, .sl 3 m.hides updC, ints b.clock, it b.time, ints b.state, mgs b.merged, nl0, nl0, ints b.places, nl0, ints b.clock, it b.time, ints b.state, mgs b.merged, ints b.places]]) ?_ ?_
 ·refine CallA.of pg ord83 Tryz.func83 rfl Tryz.ntmps83 Tryz.results83 rfl fun h0 G0 O0 => ?_
  repeat' (first|refine Sp.h ?_|refine Lk.r rfl ?_|refine Rf.mk rfl ?_|refine All.mk fun _=>?_|refine xT ?_|refine Ch.l ⟨rfl, rfl⟩ ?_|(apply SetAsk.r;focus repeat' constructor)|(apply Fk.r;focus repeat' first|infer_instance|constructor)|refine xN ?_|(apply Cl.p (h1);(focus ((repeat' (first|exact Lend.nil|apply Lend.keep|apply Lend.agg|fail));done)))|(apply Cl.p (h2);(focus ((repeat' (first|exact Lend.nil|apply Lend.keep|apply Lend.agg|fail));done))))
  exact ⟨_, _, .one (.same (.z)), _, rfl, rfl⟩
 ·rintro _ _ ⟨p, rfl, rfl⟩
  refine ⟨[stoR p m b (.slice none 0 0) b, arrR (.slice none 0 0) 40 13 ([] : List EvS) evC], ?_, p, _, rfl, rfl⟩
  refine (OX.nil _ 40 13 evC).trans (OX.recell (.there .here) _ ?_)
  (repeat' (first|exact RLe.nil|(apply RLe.cons;(focus first|exact ALe.refl _|exact ALe.nilow|exact ALe.nil))))
set_option maxHeartbeats 2000000 in
theorem new35_a (m : ModS) (n : Nat) (ld : List Int) (hm : MOK m) (hn : 1 ≤ n ∧ n ≤ 5) (hl : ld.length = strF m) (hs : insS ld) :
  CallA Tryz.prog 39 [mdl m, it n, ints ld] [] fun q own => ∃ p v, q = .tup [pm p, it 0] ∧ own = [stoR p m ⟨List.replicate n 0, 0, ld, List.replicate (mrgF m).length mg0, []⟩ v ⟨List.replicate n 0, 0, ld, List.replicate (mrgF m).length mg0, []⟩, arrR v 40 13 ([] : List EvS) evC] := by
 have h1 := cells35_p m hm.lay
 have h2 := inside35_p ld
 rw [decide_eq_true hs] at h2
 have h3 : CallP Tryz.prog 38 [it n] (ints (List.replicate n 0)) := CallA.fz (T := 3) (by simp;omega) (by have := zero_ok (n : Int) (by omega);rwa [Int.toNat_natCast] at this)
 have h4 := new_p m hm.lay
 have := hm.str;have := hm.mrg
 have h5 := open_a m ⟨List.replicate n 0, 0, ld, List.replicate (mrgF m).length mg0, []⟩ nl0 nl0 ⟨by simp;omega, by simp only;omega, by simp;omega, fun g hg => by rw [(List.mem_replicate.1 hg).2];simp [mg0], by simp⟩
 have h6 : CallA Tryz.prog 83 [mdl m, .agg [ints (List.replicate n 0), it 0, ints ld, mgs (List.replicate (mrgF m).length mg0), nl0, nl0, nl0]] [] fun q own => ∃ p v, q = pm p ∧ own = [stoR p m ⟨List.replicate n 0, 0, ld, List.replicate (mrgF m).length mg0, []⟩ v ⟨List.replicate n 0, 0, ld, List.replicate (mrgF m).length mg0, []⟩, arrR v 40 13 ([] : List EvS) evC] := by
  refine CallA.args (RLe.cons (ALe.refl _) (RLe.cons (ALe.agg ?_) .nil)) h5
  (repeat' (first|exact RLe.nil|(apply RLe.cons;(focus first|exact ALe.refl _|exact ALe.nilow|exact ALe.nil))))
 refine CallA.of pg ord39 Tryz.func39 rfl Tryz.ntmps39 Tryz.results39 rfl fun h0 G0 O0 => ?_
 repeat' (first|refine Sp.h ?_|refine Lk.r rfl ?_|refine Rf.mk rfl ?_|refine xA ?_|refine xB ?_|refine OpK.r rfl ?_|refine Im.mk fun _=>?_|refine All.mk fun _=>?_|refine xT ?_|refine Ch.l ⟨rfl, rfl⟩ ?_|(apply Fk.r;focus repeat' first|infer_instance|constructor)|refine xD ?_|(apply Cl.p (h1);focus (repeat' constructor);done)|(apply Cl.p (h2);focus (repeat' constructor);done)|(apply Cl.p (h3);focus (repeat' constructor);done)|(apply Cl.p (h4);focus (repeat' constructor);done))
 refine xW (h6) ?_
 rintro _ _ ⟨p, v, rfl, rfl⟩
 repeat' (first|refine Sp.h ?_|refine Lk.r rfl ?_|refine OpK.r rfl ?_|refine xN ?_|fail)
 exact ⟨_, _, .tup (.same (.same (.z))), p, v, rfl, rfl⟩
end Go.Proofs.YtajenkpjcbaadaaGreat
namespace Go.Proofs.YtajenkpjcbaadaaGreat
open Go Go.CF
set_option maxRecDepth 20000
def laysSort_ren : Go.Shelf.Ren := ⟨fun | 189 => 122 | 125 => 155 | 257 => 154 | 128 => 196 | 129 => 197 | 294 => 188 | 295 => 189 | 296 => 190 | 297 => 191 | 298 => 192 | 299 => 193 | 216 => 165 | 300 => 194 | 301 => 195 | 328 => 213 | 329 => 214 | 330 => 215 | 331 => 216 | 332 => 217 | 215 => 98 | 343 => 226|n => n, fun | 28 => 22 | 3 => 3 | 46 => 230 | 0 => 0 | 51 => 257 | 53 => 259 | 4 => 4 | 183 => 251 | 182 => 250 | 131 => 208 | 5 => 5 | 9 => 9 | 218 => 272 | 222 => 276 | 228 => 288 | 229 => 289|n => n, fun|n => n⟩
theorem laysSort : Go.Proofs.Lays.n189 Tryz.prog laysSort_ren := {
 mixed := by kernel_rfl,
 f125 := Tryz.func155.trans (congrArg some (by kernel_rfl)),
 f128 := Tryz.func196.trans (congrArg some (by kernel_rfl)),
 f129 := Tryz.func197.trans (congrArg some (by kernel_rfl)),
 f189 := Tryz.func122.trans (congrArg some (by kernel_rfl)),
 f215 := Tryz.func98.trans (congrArg some (by kernel_rfl)),
 f216 := Tryz.func165.trans (congrArg some (by kernel_rfl)),
 f257 := Tryz.func154.trans (congrArg some (by kernel_rfl)),
 f294 := Tryz.func188.trans (congrArg some (by kernel_rfl)),
 f295 := Tryz.func189.trans (congrArg some (by kernel_rfl)),
 f296 := Tryz.func190.trans (congrArg some (by kernel_rfl)),
 f297 := Tryz.func191.trans (congrArg some (by kernel_rfl)),
 f298 := Tryz.func192.trans (congrArg some (by kernel_rfl)),
 f299 := Tryz.func193.trans (congrArg some (by kernel_rfl)),
 f300 := Tryz.func194.trans (congrArg some (by kernel_rfl)),
 f301 := Tryz.func195.trans (congrArg some (by kernel_rfl)),
 f328 := Tryz.func213.trans (congrArg some (by kernel_rfl)),
 f329 := Tryz.func214.trans (congrArg some (by kernel_rfl)),
 f330 := Tryz.func215.trans (congrArg some (by kernel_rfl)),
 f331 := Tryz.func216.trans (congrArg some (by kernel_rfl)),
 f332 := Tryz.func217.trans (congrArg some (by kernel_rfl)),
 f343 := Tryz.func226.trans (congrArg some (by kernel_rfl)),
 t0 := Tryz.underlying0,
 a0 := Tryz.isAgg0,
 z0 := Tryz.sizeOf0,
 v0 := Tryz.zeroValue0,
 t3 := Tryz.underlying3,
 a3 := Tryz.isAgg3,
 z3 := Tryz.sizeOf3,
 v3 := Tryz.zeroValue3,
 t4 := Tryz.underlying4,
 a4 := Tryz.isAgg4,
 z4 := Tryz.sizeOf4,
 v4 := Tryz.zeroValue4,
 t5 := Tryz.underlying5,
 a5 := Tryz.isAgg5,
 z5 := Tryz.sizeOf5,
 v5 := Tryz.zeroValue5,
 t9 := Tryz.underlying9,
 a9 := Tryz.isAgg9,
 z9 := Tryz.sizeOf9,
 v9 := Tryz.zeroValue9,
 t28 := Tryz.underlying22,
 a28 := Tryz.isAgg22,
 z28 := Tryz.sizeOf22,
 v28 := Tryz.zeroValue22,
 t46 := Tryz.underlying230,
 a46 := Tryz.isAgg230,
 z46 := Tryz.sizeOf230,
 v46 := Tryz.zeroValue230,
 t51 := Tryz.underlying257,
 a51 := Tryz.isAgg257,
 z51 := Tryz.sizeOf257,
 v51 := Tryz.zeroValue257,
 t53 := Tryz.underlying259,
 a53 := Tryz.isAgg259,
 z53 := Tryz.sizeOf259,
 v53 := Tryz.zeroValue259,
 t131 := Tryz.underlying208,
 a131 := Tryz.isAgg208,
 z131 := Tryz.sizeOf208,
 v131 := Tryz.zeroValue208,
 t182 := Tryz.underlying250,
 a182 := Tryz.isAgg250,
 z182 := Tryz.sizeOf250,
 v182 := Tryz.zeroValue250,
 t183 := Tryz.underlying251,
 a183 := Tryz.isAgg251,
 z183 := Tryz.sizeOf251,
 v183 := Tryz.zeroValue251,
 t218 := Tryz.underlying272,
 a218 := Tryz.isAgg272,
 z218 := Tryz.sizeOf272,
 v218 := Tryz.zeroValue272,
 t222 := Tryz.underlying276,
 a222 := Tryz.isAgg276,
 z222 := Tryz.sizeOf276,
 v222 := Tryz.zeroValue276,
 t228 := Tryz.underlying288,
 a228 := Tryz.isAgg288,
 z228 := Tryz.sizeOf288,
 v228 := Tryz.zeroValue288,
 t229 := Tryz.underlying289,
 a229 := Tryz.isAgg289,
 z229 := Tryz.sizeOf289,
 v229 := Tryz.zeroValue289 }
abbrev i1 : Int → List AV := fun x => [.val (.int .i64 x)]
def srtI (l : List Int) : List Int := l.mergeSort fun x y => decide (x ≤ y)
theorem sortInt_a (v : Value) (T : TypeId) (l : List Int) (hl : l.length ≤ 1000000) : CallA Tryz.prog 122 [.ow v] [arrR v T 1 l i1] fun r own => r = .tup [] ∧ own = [arrR v T 1 (srtI l) i1] :=
 sortI_a laysSort v T l hl
noncomputable def ddN {α : Type} (l : List α) : Nat → List α
 | 0 => []
 | i + 1 => @ite _ (0 < i ∧ l[i]? = l[i - 1]?) (Classical.propDecidable _) (ddN l i) (ddN l i ++ l[i]?.toList)
noncomputable def dd {α : Type} (l : List α) : List α := ddN l l.length
theorem ddN_eq {α : Type} {l : List α} {i : Nat} (h0 : 0 < i) (h : l[i]? = l[i - 1]?) : ddN l (i + 1) = ddN l i := by
 rw [ddN];exact @if_pos _ (Classical.propDecidable _) ⟨h0, h⟩ _ _ _
theorem ddN_ne {α : Type} {l : List α} {i : Nat} {x : α} (hx : l[i]? = some x) (h : 0 < i → l[i]? ≠ l[i - 1]?) : ddN l (i + 1) = ddN l i ++ [x] := by
 rw [ddN, hx]
 exact @if_neg _ (Classical.propDecidable _) (fun e => h e.1 (by rw [hx];exact e.2)) _ _ _
theorem ddN_len {α : Type} {l : List α} : ∀ i, (ddN l i).length ≤ i
 | 0 => Nat.le_refl _
 | i + 1 => by
  have := ddN_len (l := l) i
  rw [ddN]
  cases l[i]? <;> (split <;> simp <;> omega)
theorem ddN_take {α : Type} {l : List α} {i : Nat} (hi : i ≤ l.length) (h : ∀ j, 0 < j → j < i → l[j]? ≠ l[j - 1]?) : ddN l i = l.take i := by
 induction i with
 | zero => rfl
 | succ i ih =>
  have hx := List.getElem?_eq_getElem (show i < l.length by omega)
  rw [ddN_ne hx (fun h0 => h i h0 (by omega)), ih (by omega) (fun j h1 h2 => h j h1 (by omega)), List.take_add_one, hx];rfl
abbrev vI (x : Int) : List Value := [.int .i64 x]
theorem vI_map (l : List Int) : (l.map vI).map valR = l.map i1 := by rw [List.map_map];rfl
set_option maxHeartbeats 1000000 in
theorem compactI_a (w : Value) (l : List Int) (hl : l.length ≤ 1000000) : CallA Tryz.prog 123 [.ow w] [arrR w 3 1 l i1] fun q own => ∃ w', q = .ow w' ∧ own = [arrR w' 3 1 (dd l) i1] := by
 refine CallA.of pg ord123 Tryz.func123 rfl Tryz.ntmps123 Tryz.results123 rfl fun h0 G0 O0 => ?_
 by_cases h2 : l.length < 2
 ·have he : dd l = l := by
   rw [dd, ddN_take (Nat.le_refl _) (fun j h1 h3 => by omega), List.take_length]
  rw [he]
  repeat' (first|refine Sp.h ?_|refine Lk.r rfl ?_|refine Rf.mk rfl ?_|refine xA ?_|refine xU ?_|refine xN ?_|fail)
  exact ⟨_, _, .one (.same (.z)), _, rfl, rfl⟩
 repeat' (first|refine Sp.h ?_|refine Lk.r rfl ?_|refine Rf.mk rfl ?_|refine xB ?_|refine xU ?_|fail)
 refine CA.loop (fun k : Nat => ⟨[(0, .ow w), (3, it k)], [arrR w 3 1 l i1]⟩) (fun k => 1 ≤ k ∧ k ≤ l.length ∧ ∀ j, 0 < j → j < k → l[j]? ≠ l[j - 1]?) (fun k => l.length - k) 1 xE ⟨Nat.le_refl _, by omega, fun j h1 h3 => by omega⟩ ?_
 rintro k ⟨h1, h3, h4⟩
 by_cases hk : k < l.length
 rotate_left
 ·have hke : k = l.length := by omega
  have he : dd l = l := by rw [dd, ← hke, ddN_take h3 h4, hke, List.take_length]
  rw [he]
  repeat' (first|refine Sp.h ?_|refine Lk.r rfl ?_|refine Rf.mk rfl ?_|refine xB ?_|refine xU ?_|refine xN ?_|fail)
  exact ⟨_, _, .one (.same (.z)), _, rfl, rfl⟩
 obtain ⟨x, hx⟩ := get_of hk
 obtain ⟨y, hy⟩ := get_of (l := l) (i := k - 1) (by omega)
 by_cases hxy : x = y
 rotate_left
 ·repeat' (first|refine Sp.h ?_|refine Lk.r rfl ?_|refine Rf.mk rfl ?_|refine xA ?_|refine xB ?_|refine OpK.r rfl ?_|refine xU ?_|refine xI ?_|(apply Ix.r;(focus assumption);(focus omega))|refine xJ ?_|refine xD ?_|refine xO ?_|fail)
  refine PA.lp (k + 1) xE ⟨⟨by omega, hk, fun j g1 g2 => ?_⟩, by omega⟩
  by_cases hj : j = k
  ·subst hj;rw [hx, hy];exact fun e => hxy (by cases e;rfl)
  ·exact h4 j g1 (by omega)
 repeat' (first|refine Sp.h ?_|refine Lk.r rfl ?_|refine Rf.mk rfl ?_|refine xA ?_|refine OpK.r rfl ?_|refine xU ?_|refine xI ?_|(apply Ix.r;(focus assumption);(focus omega))|refine xJ ?_|(apply Jx.r;(focus exact rfl);(focus first|omega|(simp;done)|(simp;omega)))|refine xD ?_|refine xO ?_|fail)
 refine CA.loop (fun q : Nat × Nat × List Int => ⟨[(0, .ow w), (3, it q.1), (4, .os w 1 k (l.length - k)), (5, it q.2.1)], [arrR w 3 1 q.2.2 i1]⟩)
  (fun q => 1 ≤ q.2.1 ∧ q.1 < k + q.2.1 ∧ k + q.2.1 ≤ l.length ∧ q.2.2.length = l.length ∧ q.2.2.take q.1 = ddN l (k + q.2.1) ∧ q.2.2.drop (k + q.2.1 - 1) = l.drop (k + q.2.1 - 1)) (fun q => l.length - q.2.1) (k, 1, l) xE
  ⟨Nat.le_refl _, by simp only;omega, by simp only;omega, rfl, by simp only;rw [ddN_eq (by omega) (by rw [hx, hy, hxy]), ddN_take h3 h4], rfl⟩ ?_
 rintro ⟨i, m, cur⟩ ⟨g1, g2, g3, g4, g5, g6⟩
 simp only at g1 g2 g3 g4 g5 g6
 simp only
 by_cases hm : k + m < l.length
 ·obtain ⟨a, ha⟩ := get_of hm
  obtain ⟨b, hb⟩ := get_of (l := l) (i := k + m - 1) (by omega)
  have hca : cur[k + m]? = some a := by
   have := congrArg (fun z => z[1]?) g6
   simp only [List.getElem?_drop] at this
   rw [show k + m - 1 + 1 = k + m by omega] at this
   rw [this, ha]
  have hcb : cur[k + (m - 1)]? = some b := by
   have := congrArg (fun z => z[0]?) g6
   simp only [List.getElem?_drop, Nat.add_zero] at this
   rw [show k + (m - 1) = k + m - 1 by omega, this, hb]
  have h7 : cur.drop (k + m) = l.drop (k + m) := by
   have := congrArg (List.drop 1) g6
   rw [List.drop_drop, List.drop_drop] at this
   rwa [show k + m - 1 + 1 = k + m by omega] at this
  obtain ⟨z, hz⟩ := get_of (l := cur) (i := i) (by omega)
  have hm1 : ((m : Int) - 1) = ((m - 1 : Nat) : Int) := by omega
  by_cases hab : a = b
  ·repeat' (first|refine Sp.h ?_|refine Lk.r rfl ?_|refine Rf.mk rfl ?_|refine xA ?_|refine OpK.r rfl ?_|refine xU ?_|refine xJ ?_|refine Rf.mk ⟨rfl, rfl⟩ ?_|refine xD ?_|(apply Sx.r;(focus exact rfl);(focus first|omega|(simp;omega)))|refine xO ?_|(apply Sx.r;(focus assumption);(focus first|omega|(simp;omega)))|fail)
   exact PA.lp (i, m + 1, cur) xE ⟨⟨by simp only;omega, by simp only;omega, by simp only;omega, g4, by simp only;rw [← Nat.add_assoc, ddN_eq (by omega) (by rw [ha, hb, hab])];exact g5, by simp only;rw [show k + (m + 1) - 1 = k + m by omega];exact h7⟩, by simp only;omega⟩
  ·repeat' (first|refine Sp.h ?_|refine Lk.r rfl ?_|refine Rf.mk rfl ?_|refine xA ?_|refine xB ?_|refine OpK.r rfl ?_|refine xU ?_|refine xI ?_|refine xJ ?_|refine xV ?_|refine Rf.mk ⟨rfl, rfl⟩ ?_|refine Up.r rfl ?_|refine xD ?_|(apply Sx.r;(focus exact rfl);(focus first|omega|(simp;omega)))|refine xO ?_|(apply Sx.r;(focus assumption);(focus first|omega|(simp;omega)))|fail)
   have h8 : (cur.set i a).take (i + 1) = cur.take i ++ [a] := by
    rw [List.take_add_one, List.getElem?_set, if_pos rfl, if_pos (by omega), List.take_set_of_le (Nat.le_refl _)];rfl
   refine PA.lp (i + 1, m + 1, cur.set i a) xE ⟨⟨by simp only;omega, by simp only;omega, by simp only;omega, by simp only;rw [List.length_set];exact g4, ?_, ?_⟩, by simp only;omega⟩
   ·simp only
    rw [h8, g5, ← Nat.add_assoc, ddN_ne ha (fun _ => by rw [ha, hb];exact fun e => hab (by cases e;rfl))]
   ·simp only
    rw [show k + (m + 1) - 1 = k + m by omega, List.drop_set_of_lt (by omega)];exact h7
 ·have hme : k + m = l.length := by omega
  rw [hme] at g5
  (repeat' (first|(show CA _ _ (Code.region 14 _ _) _ _;apply Stopped.out)|refine Sp.h ?_|refine Lk.r rfl ?_|refine Rf.mk rfl ?_|refine xB ?_|fail));any_goals apply Stopped.mk
  apply CA.retype (m := cur.map vI) (g := valR)
  focus (repeat constructor)
  focus exact vI_map cur
  apply CA.toX 0
  focus rfl
  focus (repeat constructor)
  intro hcap
  rw [List.length_map] at hcap
  (repeat' (first|(show CA _ _ Code.ret _ _;apply Stopped.out)|refine Sp.h ?_|refine Lk.r rfl ?_|refine Rf.mk rfl ?_|refine xP ?_|refine Rf.mk ⟨rfl, rfl⟩ ?_|refine Rf.mk ⟨rfl, rfl, rfl⟩ ?_|(apply Jx.r;(focus exact rfl);(focus first|omega|(simp;done)|(simp;omega)))|(apply TkX.r;(focus repeat constructor))|(apply ExX.short;(focus rfl);(focus first|omega|(simp <;> omega));(focus first|omega|(simp <;> omega)))|fail));any_goals apply Stopped.mk
  apply CA.retype (m := dd l) (g := i1)
  focus (repeat constructor)
  focus (rw [dd, ← g5, ← vI_map, List.map_take];simp [List.take_take])
  repeat' (first|refine Sp.h ?_|refine Lk.r rfl ?_|refine xN ?_|fail)
  exact ⟨_, _, .one (.same (.z)), _, rfl, rfl⟩
end Go.Proofs.YtajenkpjcbaadaaGreat
namespace Go.Proofs.YtajenkpjcbaadaaGreat
open Go Go.CF
set_option maxRecDepth 20000
def iniT (t : TblS) : Int := min (max 0 t.lo) t.hi
noncomputable def srtD (l : List Int) : List Int := dd (srtI l)
theorem srtI_len (l : List Int) : (srtI l).length = l.length := by simp [srtI]
theorem srtD_len (l : List Int) : (srtD l).length ≤ l.length := by
 have := ddN_len (l := srtI l) (srtI l).length
 rw [srtI_len] at this
 rw [srtD, dd, srtI_len];exact this
def SI (l s : List Int) : Prop := s.Pairwise (· < ·) ∧ ∀ x, x ∈ s ↔ x ∈ l
theorem SI.uniq {l s t : List Int} (g1 : SI l s) (g2 : SI l t) : s = t := by
 have key : ∀ s t : List Int, s.Pairwise (· < ·) → t.Pairwise (· < ·) → (∀ x, x ∈ s ↔ x ∈ t) → s = t := by
  intro s
  induction s with
  | nil =>
   intro t _ _ h
   cases t with
   | nil => rfl
   | cons b t => exact absurd ((h b).2 (by simp)) (by simp)
  | cons a s ih =>
   intro t hs ht h
   cases t with
   | nil => exact absurd ((h a).1 (by simp)) (by simp)
   | cons b t =>
    obtain ⟨h1, h2⟩ := List.pairwise_cons.1 hs
    obtain ⟨h3, h4⟩ := List.pairwise_cons.1 ht
    have hab : a = b := by
     rcases List.mem_cons.1 ((h a).1 (by simp)) with e|e
     ·exact e
     ·rcases List.mem_cons.1 ((h b).2 (by simp)) with e2|e2
      ·exact e2.symm
      ·have := h1 b e2;have := h3 a e;omega
    subst hab
    rw [ih t h2 h4 fun x => ?_]
    have := h x
    simp only [List.mem_cons] at this
    constructor
    ·intro hx
     rcases this.1 (.inr hx) with e|e
     ·subst e;have := h1 _ hx;omega
     ·exact e
    ·intro hx
     rcases this.2 (.inr hx) with e|e
     ·subst e;have := h3 _ hx;omega
     ·exact e
 exact key _ _ g1.1 g2.1 fun x => (g1.2 x).trans (g2.2 x).symm
theorem srtI_sorted (l : List Int) : (srtI l).Pairwise (· ≤ ·) := by
 have := List.pairwise_mergeSort (le := fun x y : Int => decide (x ≤ y)) (fun a b c h1 h2 => by simp at *;omega) (fun a b => by simp;omega) l
 exact this.imp fun h => by simpa using h
theorem srtD_si (l : List Int) : SI l (srtD l) := by
 have hs := srtI_sorted l
 have hm : ∀ x, x ∈ srtI l ↔ x ∈ l := fun x => List.mem_mergeSort
 suffices key : ∀ i, i ≤ (srtI l).length → (ddN (srtI l) i).Pairwise (· < ·) ∧ (∀ x, x ∈ ddN (srtI l) i ↔ x ∈ (srtI l).take i) by
  obtain ⟨h1, h2⟩ := key _ (Nat.le_refl _)
  rw [List.take_length] at h2
  exact ⟨h1, fun x => (h2 x).trans (hm x)⟩
 intro i
 induction i with
 | zero => intro _;exact ⟨List.Pairwise.nil, fun x => by simp [ddN]⟩
 | succ i ih =>
  intro hi
  obtain ⟨h1, h2⟩ := ih (by omega)
  obtain ⟨x, hx⟩ := get_of (l := srtI l) (i := i) (by omega)
  have ht : (srtI l).take (i + 1) = (srtI l).take i ++ [x] := by rw [List.take_add_one, hx];rfl
  by_cases hc : 0 < i ∧ (srtI l)[i]? = (srtI l)[i - 1]?
  ·rw [ddN_eq hc.1 hc.2, ht]
   refine ⟨h1, fun y => (h2 y).trans ?_⟩
   have hxm : x ∈ (srtI l).take i := List.mem_of_getElem? (i := i - 1) (by rw [List.getElem?_take, if_pos (by omega), ← hc.2, hx])
   simp only [List.mem_append, List.mem_singleton]
   exact ⟨.inl, fun h => h.elim id fun e => e ▸ hxm⟩
  ·rw [ddN_ne hx (fun h0 e => hc ⟨h0, e⟩), ht]
   refine ⟨List.pairwise_append.2 ⟨h1, by simp, fun a ha b hb => ?_⟩, fun y => by simp [h2]⟩
   have hb : b = x := by simpa using hb
   subst hb
   have ha := (h2 a).1 ha
   obtain ⟨j, hj⟩ := List.getElem?_of_mem ha
   have hjl : j < i := by have := (List.getElem?_eq_some_iff.1 hj).1;simp at this;omega
   rw [List.getElem?_take, if_pos hjl] at hj
   have hle : ∀ (p q : Nat) (u v : Int), p ≤ q → (srtI l)[p]? = some u → (srtI l)[q]? = some v → u ≤ v := fun p q u v hpq hu hv => by
    by_cases he : p = q
    ·subst he;rw [hu] at hv;cases hv;omega
    ·obtain ⟨p1, rfl⟩ := List.getElem?_eq_some_iff.1 hu
     obtain ⟨q1, rfl⟩ := List.getElem?_eq_some_iff.1 hv
     exact List.pairwise_iff_getElem.1 hs p q p1 q1 (by omega)
   obtain ⟨z, hz⟩ := get_of (l := srtI l) (i := i - 1) (by omega)
   have h3 := hle j (i - 1) a z (by omega) hj hz
   have h4 := hle (i - 1) i z b (by omega) hz hx
   have h5 : b ≠ z := fun e => hc ⟨by omega, by rw [hx, hz, e]⟩
   omega
noncomputable def valK (t : TblS) (g : MgS) : List Int := if t.kind = 2 ∨ t.kind = 3 then setV t g else if g.marks.length = 0 then [iniT t] else srtD (g.marks.map MkS.val)
set_option maxHeartbeats 1000000 in
theorem valuesR_p (t : TblS) (g : MgS) (hk : ¬ (t.kind = 2 ∨ t.kind = 3)) (hl : g.marks.length ≤ 100000) : CallP Tryz.prog 127 [.agg (tblC t), .agg (mgC g)] (ints (valK t g)) := by
 have h1 : t.kind ≠ 2 := fun h => hk (.inl h)
 have h2 : t.kind ≠ 3 := fun h => hk (.inr h)
 by_cases h0 : g.marks.length = 0
 ·have hv : valK t g = [iniT t] := by rw [valK, if_neg hk, if_pos h0]
  rw [hv]
  refine CallA.fz (T := 3) (by simp) ?_
  refine CallA.of pg ord127 Tryz.func127 rfl Tryz.ntmps127 Tryz.results127 rfl fun h0 G0 O0 => ?_
  (repeat' (first|(show CA _ _ Code.ret _ _;apply Stopped.out)|refine Sp.h ?_|refine Lk.r rfl ?_|refine Rf.mk rfl ?_|refine xA ?_|refine xB ?_|refine Im.mk fun _=>?_|refine All.mk fun _=>?_|refine xT ?_|(apply Fk.r;focus repeat' first|infer_instance|constructor)|refine Rf.mk ⟨rfl, rfl, rfl⟩ ?_|fail));any_goals apply Stopped.mk
  apply CA.retype (m := [iniT t]) (g := i1)
  focus (repeat constructor)
  focus rfl
  repeat' (first|refine Sp.h ?_|refine Lk.r rfl ?_|refine xN ?_|fail)
  exact ⟨_, _, .one (.same (.z)), _, rfl, rfl⟩
 ·have hv : valK t g = srtD (g.marks.map MkS.val) := by rw [valK, if_neg hk, if_neg h0]
  have hln := srtD_len (g.marks.map MkS.val)
  rw [List.length_map] at hln
  rw [hv]
  refine CallA.fz (T := 3) (by omega) ?_
  refine CallA.of pg ord127 Tryz.func127 rfl Tryz.ntmps127 Tryz.results127 rfl fun h0 G0 O0 => ?_
  repeat' (first|refine Sp.h ?_|refine Lk.r rfl ?_|refine Rf.mk rfl ?_|refine xB ?_|refine Im.mk fun _=>?_|refine All.mk fun _=>?_|refine xT ?_|fail)
  refine CA.nilOwn 5 3 1 i1 rfl fun v => ?_
  refine CA.loop (fun x : Nat × Value => ⟨[(5, .ow x.2), (54, mks g.marks), (55, it (g.marks.length : Nat)), (56, it x.1)], [arrR x.2 3 1 ((g.marks.take x.1).map MkS.val) i1]⟩) (fun x => x.1 ≤ g.marks.length) (fun x => g.marks.length - x.1) (0, v) xE (Nat.zero_le _) ?_
  rintro ⟨i, w⟩ hi
  simp only at hi
  simp only
  by_cases hin : i < g.marks.length
  ·obtain ⟨x, hx⟩ := get_of hin
   have hsu : (g.marks.take (i + 1)).map MkS.val = (g.marks.take i).map MkS.val ++ [x.val] := by rw [List.take_add_one, hx];simp
   repeat' (first|refine Sp.h ?_|refine Lk.r rfl ?_|refine Rf.mk rfl ?_|refine xA ?_|refine xP ?_|refine All.mk fun _=>?_|refine xU ?_|refine xT ?_|refine xI ?_|refine Ce.r ?_|refine Ch.l ⟨rfl, rfl⟩ ?_|(apply SetAsk.r;focus repeat' constructor)|(apply Fk.r;focus repeat' first|infer_instance|constructor)|refine xN ?_|refine Rf.mk ⟨rfl, rfl⟩ ?_|refine Rf.mk ⟨rfl, rfl, rfl⟩ ?_|(apply Mp.lit;(focus repeat (first|exact MpL.nil|(apply MpL.cons;(focus rfl))|(apply MpL.inv;(focus repeat constructor);(focus infer_instance)))))|refine xO ?_|fail)
   rw [← hsu]
   exact PA.lp (i + 1, _) xE ⟨hin, by simp only;omega⟩
  ·have hie : i = g.marks.length := by omega
   subst hie
   rw [List.take_length]
   have hso := sortInt_a w 3 (g.marks.map MkS.val) (by simp;omega)
   have hco := compactI_a w (srtI (g.marks.map MkS.val)) (by rw [srtI_len];simp;omega)
   repeat' (first|refine Sp.h ?_|refine Lk.r rfl ?_|refine Rf.mk rfl ?_|refine xB ?_|fail)
   refine xW (hso) ?_
   rintro _ _ ⟨rfl, rfl⟩
   repeat' (first|refine Sp.h ?_|refine Lk.r rfl ?_|refine Rf.mk rfl ?_|fail)
   refine xW (hco) ?_
   rintro _ _ ⟨w2, rfl, rfl⟩
   repeat' (first|refine Sp.h ?_|refine Lk.r rfl ?_|refine xN ?_|fail)
   exact ⟨_, _, .one (.same (.z)), _, rfl, rfl⟩
theorem values_p (t : TblS) (g : MgS) (hl : g.marks.length ≤ 100000) : CallP Tryz.prog 127 [.agg (tblC t), .agg (mgC g)] (ints (valK t g)) := by
 by_cases h : t.kind = 2 ∨ t.kind = 3
 ·rw [valK, if_pos h];exact valuesS_p t g h
 ·exact valuesR_p t g h hl
end Go.Proofs.YtajenkpjcbaadaaGreat
namespace Go.Proofs.YtajenkpjcbaadaaGreat
open Go Go.CF
set_option maxRecDepth 20000
theorem si_keep {l s : List Int} {x : Int} (h : SI l s) (hx : x ∈ s) : SI (l ++ [x]) s :=
 ⟨h.1, fun y => by
  rw [List.mem_append, List.mem_singleton, h.2]
  exact ⟨.inl, fun e => e.elim id fun e => e ▸ (h.2 x).1 hx⟩⟩
end Go.Proofs.YtajenkpjcbaadaaGreat
namespace Go.Proofs.YtajenkpjcbaadaaGreat
open Go Go.CF
set_option maxRecDepth 20000
noncomputable def valsF (ts : List TblS) (l : List MgS) : List (List Int) := (ts.zip l).map fun p => valK p.1 p.2
theorem valsF_succ {ts : List TblS} {l : List MgS} {i : Nat} {t : TblS} {g : MgS} (ht : ts[i]? = some t) (hg : l[i]? = some g) : valsF (ts.take (i + 1)) (l.take (i + 1)) = valsF (ts.take i) (l.take i) ++ [valK t g] := by
 have h1 := (List.getElem?_eq_some_iff.1 ht).1
 have h2 := (List.getElem?_eq_some_iff.1 hg).1
 rw [List.take_add_one, List.take_add_one, ht, hg, valsF, Option.toList_some, Option.toList_some, List.zip_append (by simp;omega), List.map_append]
 rfl
theorem valsF_len (ts : List TblS) (l : List MgS) : (valsF ts l).length = min ts.length l.length := by simp [valsF]
theorem valL_len {ts : List TblS} {l : List MgS} (hv : ValL ts l) {i : Nat} {t : TblS} {g : MgS} (ht : ts[i]? = some t) (hg : l[i]? = some g) : g.marks.length ≤ 1024 := (hv.2 i t g ht hg).1.2.2.2
theorem valuesM_p (m : ModS) (l : List MgS) (hm : LayOK m.sorts m.tables) (hv : ValL (mrgF m) l) (hl : (mrgF m).length ≤ 1000) :
  CallP Tryz.prog 63 [mdl m, mgs l] (.tup [clks (valsF (mrgF m) l), it 0]) := by
 refine CallA.fzt (T := 22) (by rw [valsF_len];omega) ?_
 have hva := validM_p m l hm
 have hce := cells_p m hm
 have hlen := hv.1
 refine CallA.of pg ord63 Tryz.func63 rfl Tryz.ntmps63 Tryz.results63 rfl fun h0 G0 O0 => ?_
 repeat' (first|refine Sp.h ?_|refine Lk.r rfl ?_|refine Rf.mk rfl ?_|refine xA ?_|refine Im.mk fun _=>?_|refine All.mk fun _=>?_|refine xT ?_|refine Ch.l ⟨rfl, rfl⟩ ?_|(apply Cl.p (hva);focus repeat' constructor)|(apply Cl.p (hce);focus repeat' constructor))
 refine CA.nilOwn 6 22 1 clkC rfl fun v => ?_
 refine CA.loop (fun x : Nat × Value => ⟨[(1, mgs l), (6, .ow x.2), (14, tbls (mrgF m)), (15, it ((mrgF m).length : Nat)), (16, it x.1)], [arrR x.2 22 1 (valsF ((mrgF m).take x.1) (l.take x.1)) clkC]⟩) (fun x => x.1 ≤ (mrgF m).length) (fun x => (mrgF m).length - x.1) (0, v) xE (Nat.zero_le _) ?_
 rintro ⟨i, w⟩ hi
 simp only at hi
 simp only
 by_cases hin : i < (mrgF m).length
 ·obtain ⟨t, ht⟩ := get_of hin
  obtain ⟨g, hg⟩ := get_of (l := l) (i := i) (by omega)
  have hsu := valsF_succ ht hg
  have hva := values_p t g (by have := valL_len hv ht hg;omega)
  have hln : (valsF ((mrgF m).take i) (l.take i)).length ≤ 1000 := by rw [valsF_len];simp;omega
  repeat' (first|refine Sp.h ?_|refine Lk.r rfl ?_|refine Rf.mk rfl ?_|refine xA ?_|refine OpK.r rfl ?_|refine xP ?_|refine All.mk fun _=>?_|refine xU ?_|refine xT ?_|refine xI ?_|refine Ce.r ?_|refine Ch.l ⟨rfl, rfl⟩ ?_|(apply SetAsk.r;focus repeat' constructor)|(apply Fk.r;focus repeat' first|infer_instance|constructor)|refine xN ?_|refine Rf.mk ⟨rfl, rfl⟩ ?_|refine Rf.mk ⟨rfl, rfl, rfl⟩ ?_|(apply Mp.lit;(focus repeat (first|exact MpL.nil|(apply MpL.cons;(focus rfl))|(apply MpL.inv;(focus repeat constructor);(focus infer_instance)))))|refine xD ?_|refine xO ?_|(apply Cl.p (hva);focus repeat' constructor))
  rw [← hsu]
  exact PA.lp (i + 1, _) xE ⟨hin, by simp only;omega⟩
 ·have hie : i = (mrgF m).length := by omega
  subst hie
  rw [List.take_length, List.take_of_length_le (l := l) (by omega)]
  repeat' (first|refine Sp.h ?_|refine Lk.r rfl ?_|refine Rf.mk rfl ?_|refine xB ?_|refine xN ?_|fail)
  exact ⟨_, _, .tup (.same (.same (.z))), _, rfl, rfl⟩
end Go.Proofs.YtajenkpjcbaadaaGreat
namespace Go.Proofs.YtajenkpjcbaadaaGreat
open Go Go.CF
set_option maxRecDepth 20000
noncomputable def valuesQ (m : ModS) (l : List MgS) : Int × List (List Int) := @ite _ (ValL (mrgF m) l) (Classical.propDecidable _) (0, valsF (mrgF m) l) (1, [])
theorem valuesQ_ok {m : ModS} {l : List MgS} (h : ValL (mrgF m) l) : valuesQ m l = (0, valsF (mrgF m) l) := @if_pos _ (Classical.propDecidable _) h _ _ _
theorem valuesQ_bad {m : ModS} {l : List MgS} (h : ¬ ValL (mrgF m) l) : valuesQ m l = (1, []) := @if_neg _ (Classical.propDecidable _) h _ _ _
abbrev resV (q : Int × List (List Int)) : AV := .tup [clks q.2, it q.1]
theorem valuesQ_p (m : ModS) (l : List MgS) (hm : MOK m) : CallP Tryz.prog 63 [mdl m, mgs l] (resV (valuesQ m l)) := by
 by_cases hv : ValL (mrgF m) l
 ·rw [valuesQ_ok hv];exact valuesM_p m l hm.lay hv (by have := hm.mrg;omega)
 ·have hva := validM_p m l hm.lay
  rw [valuesQ_bad hv]
  refine CallA.conv (a := .tup [.val (.slice none 0 0), it 1]) (.tup (.cons ALe.nil (.cons (ALe.refl _) .nil))) ?_
  refine CallA.of pg ord63 Tryz.func63 rfl Tryz.ntmps63 Tryz.results63 rfl fun h0 G0 O0 => ?_
  repeat' (first|refine Sp.h ?_|refine Lk.r rfl ?_|refine Rf.mk rfl ?_|refine xB ?_|refine All.mk fun _=>?_|refine xT ?_|refine Ch.l ⟨rfl, rfl⟩ ?_|refine xN ?_|(apply Cl.p (hva);focus repeat' constructor))
  exact Fin.p rfl rfl
end Go.Proofs.YtajenkpjcbaadaaGreat
namespace Go.Proofs.YtajenkpjcbaadaaGreat
open Go Go.CF
set_option maxRecDepth 20000
theorem open_iff {l : List EvS} {c : List Int} (ha : AllE l c) {e : EvS} (he : e ∈ l) : OpenE c e ↔ HasC c e.rep e.num ∧ ¬ Ins e.past c :=
 ⟨fun h => ⟨h.1, h.2.2⟩, fun h => ⟨h.1, (alike2 c e.past).2 ⟨ha.1, (ha.2 e he).1.1, (ha.2 e he).2.symm⟩, h.2⟩⟩
theorem low_le (l : List EvS) (c : List Int) : lowI l c ≤ l.length := idxN_le _ _
theorem low_lt {l : List EvS} {c : List Int} {i : Nat} {e : EvS} (h : i < lowI l c) (he : l[i]? = some e) : ¬ OpenE c e := by
 by_cases hl : lowI l c < l.length
 ·obtain ⟨x, -, -, h3⟩ := low_at hl
  exact h3 i e h he
 ·exact low_no hl e (List.mem_of_getElem? he)
set_option maxHeartbeats 2000000 in
theorem closedR_o {l : List EvS} (n : Nat) : ∀ {c r : List Int}, msr c = n → Low l c r → AllE l c → CallO Tryz.prog 29 [evs l, ints c] 3 1 r intC := by
 induction n using Nat.strongRecOn with
 | ind n ih =>
 intro c r hn hlow ha
 have hvc := ha.1
 have hal := ha.1.2
 refine CallA.of pg ord29 Tryz.func29 rfl Tryz.ntmps29 Tryz.results29 rfl fun h0 G0 O0 => ?_
 repeat' (first|refine Sp.h ?_|refine Lk.r rfl ?_|refine Rf.mk rfl ?_|refine xA ?_|(apply Cl.p (validR_p _);focus repeat' constructor))
 refine CA.loop (fun i : Nat => ⟨[(0, evs l), (1, ints c), (5, .val (.int .i64 i))], []⟩)
  (fun i => i ≤ l.length) (fun i => l.length - i) 0 xE (Nat.zero_le _) ?_
 intro i hi
 by_cases hin : i < l.length
 ·obtain ⟨e, he⟩ := get_of hin
  obtain ⟨hf1, hf2⟩ := ha.2 e (List.mem_of_getElem? he)
  repeat' (first|refine Sp.h ?_|refine Lk.r rfl ?_|refine Rf.mk rfl ?_|refine xA ?_|refine Im.mk fun _=>?_|refine xI ?_|refine Ch.l ⟨rfl, rfl⟩ ?_|refine xO ?_|(apply Cl.p (formedR_p _);focus repeat' constructor))
  exact PA.lp (i + 1) xE ⟨hin, by omega⟩
 ·repeat' (first|refine Sp.h ?_|refine Lk.r rfl ?_|refine Rf.mk rfl ?_|refine xB ?_|refine xP ?_|refine Im.mk fun _=>?_|refine All.mk fun _=>?_|refine xU ?_|refine Ce.l rfl ?_|(apply Fk.r;focus repeat' first|infer_instance|constructor)|refine Rf.mk ⟨rfl, rfl⟩ ?_|refine Rf.mk ⟨rfl, rfl, rfl⟩ ?_|refine Mp.same ?_|fail)
  rename_i v
  refine CA.loop (fun i : Nat => ⟨[(0, evs l), (6, .ow v), (7, .val (.int .i64 i))], [arrR v 3 1 c intC]⟩)
   (fun i => i ≤ lowI l c) (fun i => lowI l c - i) 0 xE (Nat.zero_le _) ?_
  intro i hi
  by_cases hik : i < lowI l c
  ·have hle := low_le l c
   obtain ⟨e, he⟩ := get_of (l := l) (i := i) (by omega)
   have hno := low_lt hik he
   rw [open_iff ha (List.mem_of_getElem? he)] at hno
   repeat' (first|refine Sp.h ?_|refine Lk.r rfl ?_|refine Rf.mk rfl ?_|refine xA ?_|refine Im.mk fun _=>?_|refine xI ?_|refine Ch.l ⟨rfl, rfl⟩ ?_|(apply Cl.p (nameR_p _);focus repeat' constructor))
   (apply Cl.lend (hasR_p _ _ _);(focus repeat' (first|exact Lend.nil|apply Lend.keep|(apply Lend.lend;(focus repeat constructor);(focus first|omega|(simp;omega)))|fail)))
   repeat' (first|refine Sp.h ?_|refine Lk.r rfl ?_|refine Rf.mk rfl ?_|refine xA ?_|refine xB ?_|(refine Bd.mk ?_ ?_ <;> intro _)|refine xI ?_|refine xO ?_|fail)
   ·rename_i hh
    have hins : Ins e.past c := Classical.byContradiction fun h9 => hno ⟨hh, h9⟩
    (apply Cl.lend (insideR_p _ _);(focus repeat' (first|exact Lend.nil|apply Lend.keep|(apply Lend.lend;(focus repeat constructor);(focus first|omega|(simp;omega)))|fail)))
    repeat' (first|refine Sp.h ?_|refine Lk.r rfl ?_|refine Rf.mk rfl ?_|refine xA ?_|refine xO ?_|fail)
    exact PA.lp (i + 1) xE ⟨by omega, by omega⟩
   ·exact PA.lp (i + 1) xE ⟨by omega, by omega⟩
  ·have : i = lowI l c := by omega
   subst this
   cases hlow with
   | stop hno =>
    have hx := low_yes hno
    repeat' (first|refine Sp.h ?_|refine Lk.r rfl ?_|refine Rf.mk rfl ?_|refine xB ?_|refine Im.mk fun _=>?_|refine xN ?_|fail)
    exact ⟨_, _, .one (.same (.z)), _, rfl, rfl⟩
   | step h1 h2 h3 =>
    rename_i e
    have hin := (List.getElem?_eq_some_iff.1 h1).1
    obtain ⟨o1, o2, o3, o4, o5, o6⟩ := open_set h2
    obtain ⟨y, hy⟩ := get_of o3
    have ho := (open_iff ha (List.mem_of_getElem? h1)).1 h2
    repeat' (first|refine Sp.h ?_|refine Lk.r rfl ?_|refine Rf.mk rfl ?_|refine xA ?_|refine Im.mk fun _=>?_|refine xI ?_|refine Ch.l ⟨rfl, rfl⟩ ?_|(apply Cl.p (nameR_p _);focus repeat' constructor))
    (apply Cl.lend (hasR_p _ _ _);(focus repeat' (first|exact Lend.nil|apply Lend.keep|(apply Lend.lend;(focus repeat constructor);(focus first|omega|(simp;omega)))|fail)))
    have ho1 := ho.1
    have ho2 := ho.2
    repeat' (first|refine Sp.h ?_|refine Lk.r rfl ?_|refine Rf.mk rfl ?_|refine xA ?_|refine xI ?_|fail)
    (apply Cl.lend (insideR_p _ _);(focus repeat' (first|exact Lend.nil|apply Lend.keep|(apply Lend.lend;(focus repeat constructor);(focus first|omega|(simp;omega)))|fail)))
    repeat' (first|refine Sp.h ?_|refine Lk.r rfl ?_|refine Rf.mk rfl ?_|refine xA ?_|refine xB ?_|refine OpK.r rfl ?_|refine xU ?_|refine xI ?_|(apply Ix.r;(focus assumption);(focus omega))|refine xJ ?_|refine xV ?_|refine Up.r rfl ?_|refine xD ?_|refine xO ?_|fail)
    have hrec := ih _ (by omega) rfl h3 ⟨o2, fun x hx => by rw [List.length_set];exact ha.2 x hx⟩
    repeat' (first|fail)
    (apply Cl.fz;(focus repeat' (first|exact FZ.nil|(apply FZ.fz;(focus repeat constructor);(focus first|omega|decide|exact Nat.le_of_ble_eq_true rfl|(simp <;> omega)))|apply FZ.agg|apply FZ.same)))
    (refine Cl.use (hrec) (by repeat' (first|exact Lend.nil|apply Lend.keep|fail)) .nil rfl ?_;rintro _ _ ⟨_, rfl, rfl⟩)
    repeat' (first|refine Sp.h ?_|refine Lk.r rfl ?_|refine xN ?_|fail)
    exact ⟨_, _, .one (.same (.z)), _, rfl, rfl⟩
end Go.Proofs.YtajenkpjcbaadaaGreat
namespace Go.Proofs.YtajenkpjcbaadaaGreat
open Go Go.CF
set_option maxRecDepth 20000
def joinC (a b : List Int) : List Int := zipC max a b
theorem join_z {a b : List Int} (h : AlikeC [a, b]) : CallP Tryz.prog 12 [clks [a, b]] (ints (joinC a b)) :=
 CallA.fz (by have := ((alike2 a b).1 h).1.2;simp [joinC, zipC];omega) (join_o [a, b] h)
end Go.Proofs.YtajenkpjcbaadaaGreat
namespace Go.Proofs.YtajenkpjcbaadaaGreat
open Go Go.CF
set_option maxRecDepth 20000
section
variable (s : Nat) (m : ModS) (b : NowS) (v : Value) (w : NowS)
theorem sclock_a (h : w.clock.length ≤ 100000) : CallA Tryz.prog 20 [pm s] [stoR s m b v w] fun r own => ∃ u, r = .ow u ∧ own = [arrR u 3 1 w.clock intC, stoR s m b v w] := by
 have h1 := clone_o w.clock (by omega)
 refine CallA.of pg ord20 Tryz.func20 rfl Tryz.ntmps20 Tryz.results20 rfl fun h0 G0 O0 => ?_
 repeat' (first|refine Sp.h ?_|refine Lk.r rfl ?_|refine Rf.mk rfl ?_|refine xT ?_|fail)
 (refine Cl.use (h1) (by repeat' (first|exact Lend.nil|apply Lend.keep|fail)) .nil rfl ?_;rintro _ _ ⟨_, rfl, rfl⟩)
 repeat' (first|refine Sp.h ?_|refine Lk.r rfl ?_|refine xN ?_|fail)
 exact ⟨_, _, .one (.same (.z)), _, rfl, rfl⟩
theorem sclock_p (h : w.clock.length ≤ 100000) : CallA Tryz.prog 20 [pm s] [stoR s m b v w] fun r own => r = ints w.clock ∧ own = [stoR s m b v w] :=
 CallA.fxr (sclock_a s m b v w h) (by rintro _ _ ⟨u, rfl, rfl⟩;exact ⟨_, _, FX.s1 .here (by omega) .nil, rfl, rfl⟩)
theorem sstate_a (h : w.state.length ≤ 100000) : CallA Tryz.prog 21 [pm s] [stoR s m b v w] fun r own => ∃ u, r = .ow u ∧ own = [arrR u 3 1 w.state intC, stoR s m b v w] := by
 have h1 := clone_o w.state (by omega)
 refine CallA.of pg ord21 Tryz.func21 rfl Tryz.ntmps21 Tryz.results21 rfl fun h0 G0 O0 => ?_
 repeat' (first|refine Sp.h ?_|refine Lk.r rfl ?_|refine Rf.mk rfl ?_|refine xT ?_|fail)
 (refine Cl.use (h1) (by repeat' (first|exact Lend.nil|apply Lend.keep|fail)) .nil rfl ?_;rintro _ _ ⟨_, rfl, rfl⟩)
 repeat' (first|refine Sp.h ?_|refine Lk.r rfl ?_|refine xN ?_|fail)
 exact ⟨_, _, .one (.same (.z)), _, rfl, rfl⟩
theorem sstate_p (h : w.state.length ≤ 100000) : CallA Tryz.prog 21 [pm s] [stoR s m b v w] fun r own => r = ints w.state ∧ own = [stoR s m b v w] :=
 CallA.fxr (sstate_a s m b v w h) (by rintro _ _ ⟨u, rfl, rfl⟩;exact ⟨_, _, FX.s1 .here (by omega) .nil, rfl, rfl⟩)
theorem cloneEsOwn_a (l : List EvS) (hl : l.length ≤ 1000000) (hm : ∀ e ∈ l, e.past.length ≤ 1000000) {Γ : Cx} (hP : Γ.P = Tryz.prog) {c : Cls} {o : List Res} {u : Value} {M : AV → List Res → Prop} {rest : List Res} (tk : Take o (arrR u 40 13 l evC) rest) (hm2 : ∀ v L, L.map EvE.e = l → M (.ow v) (outE v L ++ o)) : Cl Γ c 96 [.ow u] o M := by
 refine Cl.lendO (K := fun r own => ∃ v L, r = .ow v ∧ L.map EvE.e = l ∧ own = outE v L) (by rw [hP];exact cloneEs_a l hl hm) (Lend.lend tk (by omega) .nil) ?_ ?_
 ·rintro _ _ ⟨v, L, rfl, _, rfl⟩
  refine ⟨FlatV.ow _, fun R hR => ?_⟩
  rcases List.mem_cons.1 hR with rfl|hR
  ·exact FlatR.arr fun x _ => .cons (.val _) (.cons (.val _) (.cons (.val _) (.cons (.ow _) (.cons (.val _) (.cons (.val _) (.cons (.val _) (.cons (.val _) (.cons (.val _) (.cons (.val _) (.cons (.val _) (.cons (.val _) (.cons (.val _) .nil))))))))))))
  ·rw [List.mem_singleton.1 hR]
   refine FlatR.bun fun R hR => ?_
   obtain ⟨x, _, rfl⟩ := List.mem_map.1 hR
   exact FlatR.arr fun y _ => .cons (.val _) .nil
 ·rintro _ _ ⟨v, L, rfl, hL, rfl⟩
  exact hm2 v L hL
theorem sevents_a (l : List EvS) (hl : l.length ≤ 1000000) (hm : ∀ e ∈ l, e.past.length ≤ 1000000) : CallA Tryz.prog 104 [pm s] [stoR s m b v w, arrR v 40 13 l evC] fun r own => ∃ u L, r = .ow u ∧ L.map EvE.e = l ∧ own = outE u L ++ [stoR s m b v w, arrR v 40 13 l evC] := by
 refine CallA.of pg ord104 Tryz.func104 rfl Tryz.ntmps104 Tryz.results104 rfl fun h0 G0 O0 => ?_
 repeat' (first|refine Sp.h ?_|refine Lk.r rfl ?_|refine Rf.mk rfl ?_|refine xT ?_|fail)
 refine cloneEsOwn_a l hl hm rfl (by repeat constructor) fun u L hL => ?_
 repeat' (first|refine Sp.h ?_|refine Lk.r rfl ?_|refine xN ?_|fail)
 exact ⟨_, _, .one (.same (.z)), _, L, rfl, hL, rfl⟩
theorem sevents_p (l : List EvS) (hl : l.length ≤ 1000000) (hm : ∀ e ∈ l, e.past.length ≤ 1000000) : CallA Tryz.prog 104 [pm s] [stoR s m b v w, arrR v 40 13 l evC] fun r own => r = evs l ∧ own = [stoR s m b v w, arrR v 40 13 l evC] :=
 CallA.fxr (sevents_a s m b v w l hl hm) (by
  rintro _ _ ⟨u, L, rfl, hL, rfl⟩
  refine ⟨evs (L.map EvE.e), _, outE_fx (by have := congrArg List.length hL;simp at this;omega) (fun x hx => hm x.e (by rw [← hL];exact List.mem_map_of_mem hx)) .nil, by rw [hL], rfl⟩)
theorem svalues_p (hm : MOK m) : CallA Tryz.prog 23 [pm s] [stoR s m b v w] fun r own => r = clks (valuesQ m w.merged).2 ∧ own = [stoR s m b v w] := by
 have h1 := valuesQ_p m w.merged hm
 refine CallA.of pg ord23 Tryz.func23 rfl Tryz.ntmps23 Tryz.results23 rfl fun h0 G0 O0 => ?_
 repeat' (first|refine Sp.h ?_|refine Lk.r rfl ?_|refine Rf.mk rfl ?_|refine OpK.r rfl ?_|refine xT ?_|refine Ch.r ?_|refine xN ?_|refine xD ?_|(apply Cl.p (h1);focus repeat' constructor))
 exact ⟨_, _, .one (.same (.z)), rfl, rfl⟩
end
end Go.Proofs.YtajenkpjcbaadaaGreat
