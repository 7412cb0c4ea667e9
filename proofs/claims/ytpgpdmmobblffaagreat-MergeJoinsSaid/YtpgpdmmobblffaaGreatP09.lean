/- Part 9 of the ground of this proof: what its texts say of the model, the program and the plain data; conditions: those that are named. -/
import Derived.Shelf.Slices.In.SortNone
import Derived.Shelf.SlSortCmp.NoneTotal
import Derived.Lib.AppendZeros
import Derived.Test.YtpgpdmmobblffaaGreatP08
namespace Go.Proofs.YtpgpdmmobblffaaGreat
open Go Go.CF
set_option maxRecDepth 20000
theorem bit_a (b : Bool) : CallA Tryz.prog 89 [bl b] [] fun r own => ∃ v, r = .ow v ∧ own = [arrR v 3 1 [[it (if b = true then 1 else 0)]] id] := by
  refine CallA.of pg ord89 Tryz.func89 rfl Tryz.ntmps89 Tryz.results89 rfl fun h0 G0 O0 => ?_
  cases b with
  | true =>
    repeat' (first | refine Sp.h ?_ | refine Lk.r rfl ?_ | refine Rf.mk rfl ?_ | (refine All.mk ?_; intro _) | (apply Fk.r; (focus (repeat (first | exact FillA.nil | (apply FillA.agg; (focus rfl); (focus rfl); (focus (repeat (first | exact SetAs.z | (apply SetAs.c; (focus (repeat (first | assumption | exact SetA.z | apply SetA.s)))))))) | (apply FillA.one; (focus rfl); (focus infer_instance); (focus (repeat (first | assumption | exact SetA.z | apply SetA.s)))))))) | (apply Nm.r; (focus repeat (first | apply LN.cons | exact LN.nil))) | refine Rf.mk ⟨rfl, rfl, rfl⟩ ?_ | fail)
    exact ⟨_, _, .one (.same (.nil (by (repeat (first | exact Subl.nil | refine Subl.cons (by (repeat (first | exact Take.here | apply Take.there))) ?_))))), _, rfl, rfl⟩
  | false =>
    repeat' (first | refine Sp.h ?_ | refine Lk.r rfl ?_ | refine Rf.mk rfl ?_ | (refine All.mk ?_; intro _) | (apply Fk.r; (focus (repeat (first | exact FillA.nil | (apply FillA.agg; (focus rfl); (focus rfl); (focus (repeat (first | exact SetAs.z | (apply SetAs.c; (focus (repeat (first | assumption | exact SetA.z | apply SetA.s)))))))) | (apply FillA.one; (focus rfl); (focus infer_instance); (focus (repeat (first | assumption | exact SetA.z | apply SetA.s)))))))) | (apply Nm.r; (focus repeat (first | apply LN.cons | exact LN.nil))) | refine Rf.mk ⟨rfl, rfl, rfl⟩ ?_ | fail)
    exact ⟨_, _, .one (.same (.nil (by (repeat (first | exact Subl.nil | refine Subl.cons (by (repeat (first | exact Take.here | apply Take.there))) ?_))))), _, rfl, rfl⟩
theorem bit_p (b : Bool) : CallP Tryz.prog 89 [bl b] (ints [if b = true then 1 else 0]) :=
  CallA.fx (bit_a b) fun _ _ ⟨_, e1, e2⟩ => by
    subst e1; subst e2
    exact .sl .here (Nat.le_of_ble_eq_true rfl) (.agg (.le (ALe.refl _) .nil) .nil) .nil
def setB (t : TblS) (g : MgS) : Bool := if t.kind = 2 then g.put || decide (0 < g.marks.length) else g.put && !g.drop && decide (g.marks.length = 0)
def setV (t : TblS) (g : MgS) : List Int := [if setB t g = true then 1 else 0]
theorem valuesS_p (t : TblS) (g : MgS) (h : t.kind = 2 ∨ t.kind = 3) : CallP Tryz.prog 45 [.agg (tblC t), .agg (mgC g)] (ints (setV t g)) := by
  obtain ⟨put, drop, l⟩ := g
  rcases h with h | h
  · have hB : setB t ⟨put, drop, l⟩ = (put || decide (0 < l.length)) := if_pos h
    refine CallA.of pg ord45 Tryz.func45 rfl Tryz.ntmps45 Tryz.results45 rfl fun h0 G0 O0 => ?_
    cases put with
    | true =>
      repeat' (first | refine Sp.h ?_ | refine Lk.r rfl ?_ | refine Rf.mk rfl ?_ | (apply Bd.t; (focus (first | assumption | omega | rfl))) | (refine All.mk ?_; intro _) | (apply TkB.r; (focus (repeat (first | exact Take.here | apply Take.there)))) | (apply Nm.r; (focus repeat (first | apply LN.cons | exact LN.nil))) | fail | (apply Cl.p (bit_p _); (focus repeat' (first | exact Lend.nil | apply Lend.keep | fail))))
      exact Fin.p rfl (congrArg ints (by unfold setV; rw [hB]; simp))
    | false =>
      repeat' (first | refine Sp.h ?_ | refine Lk.r rfl ?_ | refine Rf.mk rfl ?_ | (apply Bd.t; (focus (first | assumption | omega | rfl))) | (refine Im.mk ?_; intro _) | (refine All.mk ?_; intro _) | (apply TkB.r; (focus (repeat (first | exact Take.here | apply Take.there)))) | (apply Nm.r; (focus repeat (first | apply LN.cons | exact LN.nil))) | fail | (apply Cl.p (bit_p _); (focus repeat' (first | exact Lend.nil | apply Lend.keep | fail))))
      exact Fin.p rfl (congrArg ints (by unfold setV; rw [hB]; simp))
  · have hB : setB t ⟨put, drop, l⟩ = (put && !drop && decide (l.length = 0)) := if_neg (by omega)
    refine CallA.of pg ord45 Tryz.func45 rfl Tryz.ntmps45 Tryz.results45 rfl fun h0 G0 O0 => ?_
    cases put with
    | true =>
      cases drop with
      | true =>
        repeat' (first | refine Sp.h ?_ | refine Lk.r rfl ?_ | refine Rf.mk rfl ?_ | (apply Bd.t; (focus (first | assumption | omega | rfl))) | (apply Bd.f; (focus (first | assumption | omega | exact Bool.false_ne_true))) | (refine All.mk ?_; intro _) | (apply TkB.r; (focus (repeat (first | exact Take.here | apply Take.there)))) | (apply Nm.r; (focus repeat (first | apply LN.cons | exact LN.nil))) | fail | (apply Cl.p (bit_p _); (focus repeat' (first | exact Lend.nil | apply Lend.keep | fail))))
        exact Fin.p rfl (congrArg ints (by unfold setV; rw [hB]; simp))
      | false =>
        repeat' (first | refine Sp.h ?_ | refine Lk.r rfl ?_ | refine Rf.mk rfl ?_ | (apply Bd.t; (focus (first | assumption | omega | rfl))) | (apply Bd.f; (focus (first | assumption | omega | exact Bool.false_ne_true))) | (refine Im.mk ?_; intro _) | (refine All.mk ?_; intro _) | (apply TkB.r; (focus (repeat (first | exact Take.here | apply Take.there)))) | (apply Nm.r; (focus repeat (first | apply LN.cons | exact LN.nil))) | fail | (apply Cl.p (bit_p _); (focus repeat' (first | exact Lend.nil | apply Lend.keep | fail))))
        exact Fin.p rfl (congrArg ints (by unfold setV; rw [hB]; simp))
    | false =>
      repeat' (first | refine Sp.h ?_ | refine Lk.r rfl ?_ | refine Rf.mk rfl ?_ | (apply Bd.t; (focus (first | assumption | omega | rfl))) | (apply Bd.f; (focus (first | assumption | omega | exact Bool.false_ne_true))) | (refine All.mk ?_; intro _) | (apply TkB.r; (focus (repeat (first | exact Take.here | apply Take.there)))) | (apply Nm.r; (focus repeat (first | apply LN.cons | exact LN.nil))) | fail | (apply Cl.p (bit_p _); (focus repeat' (first | exact Lend.nil | apply Lend.keep | fail))))
      exact Fin.p rfl (congrArg ints (by unfold setV; rw [hB]; simp))
/-- The values of a list of sets. -/
def setsV (ts : List TblS) (l : List MgS) : List (List Int) := (ts.zip l).map fun p => setV p.1 p.2
theorem setsV_succ {ts : List TblS} {l : List MgS} {i : Nat} {t : TblS} {g : MgS} (ht : ts[i]? = some t) (hg : l[i]? = some g) : setsV (ts.take (i + 1)) (l.take (i + 1)) = setsV (ts.take i) (l.take i) ++ [setV t g] := by
  have h1 := (List.getElem?_eq_some_iff.1 ht).1
  have h2 := (List.getElem?_eq_some_iff.1 hg).1
  rw [List.take_add_one, List.take_add_one, ht, hg, setsV, Option.toList_some, Option.toList_some, List.zip_append (by simp; omega), List.map_append]
  rfl
theorem valuesL_p (m : ModS) (l : List MgS) (hm : LayOK m.sorts m.tables) (hv : ValL (mrgF m) l) (hs : ∀ t ∈ mrgF m, t.kind = 2 ∨ t.kind = 3) (hl : (mrgF m).length ≤ 1000) :
    CallP Tryz.prog 14 [mdl m, mgs l] (.tup [clks (setsV (mrgF m) l), it 0]) := by
  refine CallA.fzt (T := 22) (by simp [setsV]; omega) ?_
  have hva := validM_p m l hm
  have hce := cells_p m hm
  have hlen := hv.1
  refine CallA.of pg ord14 Tryz.func14 rfl Tryz.ntmps14 Tryz.results14 rfl fun h0 G0 O0 => ?_
  repeat' (first | refine Sp.h ?_ | refine Lk.r rfl ?_ | refine Rf.mk rfl ?_ | (apply Bd.t; (focus (first | assumption | omega | rfl))) | (refine Im.mk ?_; intro _) | (refine All.mk ?_; intro _) | (apply TkB.r; (focus (repeat (first | exact Take.here | apply Take.there)))) | refine Ch.l ⟨rfl, rfl⟩ ?_ | fail | (apply Cl.p (hva); (focus repeat' (first | exact Lend.nil | apply Lend.keep | fail))) | (apply Cl.p (hce); (focus repeat' (first | exact Lend.nil | apply Lend.keep | fail))))
  refine CA.nilOwn 6 22 1 clkC rfl fun v => ?_
  refine CA.loop (fun x : Nat × Value => ⟨[(1, mgs l), (6, .ow x.2), (14, tbls (mrgF m)), (15, it ((mrgF m).length : Nat)), (16, it x.1)], [arrR x.2 22 1 (setsV ((mrgF m).take x.1) (l.take x.1)) clkC]⟩) (fun x => x.1 ≤ (mrgF m).length) (fun x => (mrgF m).length - x.1) (0, v) ⟨by (repeat (first | exact trivial | refine ⟨rfl, ?_⟩)), by (repeat (first | exact Subl.nil | refine Subl.cons (by (repeat (first | exact Take.here | apply Take.there))) ?_))⟩ (Nat.zero_le _) ?_
  rintro ⟨i, w⟩ hi
  simp only at hi
  simp only
  by_cases hin : i < (mrgF m).length
  · obtain ⟨t, ht⟩ := get_of hin
    obtain ⟨g, hg⟩ := get_of (l := l) (i := i) (by omega)
    have hsu := setsV_succ ht hg
    have hva := valuesS_p t g (hs t (List.mem_of_getElem? ht))
    have hln : (setsV ((mrgF m).take i) (l.take i)).length ≤ 1000 := by simp [setsV]; omega
    repeat' (first | refine Sp.h ?_ | refine Lk.r rfl ?_ | refine Rf.mk rfl ?_ | (apply Bd.t; (focus (first | assumption | omega | rfl))) | refine OpK.r rfl ?_ | (apply Om.mk; (focus first | omega | (simp <;> omega))) | (refine All.mk ?_; intro _) | (apply TkA.r; (focus (repeat (first | exact Take.here | apply Take.there)))) | (apply TkB.r; (focus (repeat (first | exact Take.here | apply Take.there)))) | (apply Ix.q; (focus exact rfl); (focus assumption)) | refine Ce.r ?_ | refine Ch.l ⟨rfl, rfl⟩ ?_ | (apply SetAsk.r; (focus (repeat (first | exact SetAs.z | (apply SetAs.c; (focus (repeat (first | assumption | exact SetA.z | apply SetA.s)))))))) | (apply Fk.r; (focus (repeat (first | exact FillA.nil | (apply FillA.agg; (focus rfl); (focus rfl); (focus (repeat (first | exact SetAs.z | (apply SetAs.c; (focus (repeat (first | assumption | exact SetA.z | apply SetA.s)))))))) | (apply FillA.one; (focus rfl); (focus infer_instance); (focus (repeat (first | assumption | exact SetA.z | apply SetA.s)))))))) | (apply Nm.r; (focus repeat (first | apply LN.cons | exact LN.nil))) | refine Rf.mk ⟨rfl, rfl⟩ ?_ | refine Rf.mk ⟨rfl, rfl, rfl⟩ ?_ | (apply Mp.lit; (focus repeat (first | exact MpL.nil | (apply MpL.cons; (focus rfl)) | (apply MpL.inv; (focus repeat (first | apply LN.cons | exact LN.nil)); (focus infer_instance))))) | (apply CA.draw; (focus rfl); (focus kernel_rfl); (focus kernel_rfl); (focus repeat' (first | apply ON.one | exact ON.done | exact ON.none | apply ON.alt)); (focus rfl)) | (apply Ov.n; (focus first | omega | (simp <;> omega))) | fail | (apply Cl.p (hva); (focus repeat' (first | exact Lend.nil | apply Lend.keep | fail))))
    rw [← hsu]
    exact PA.lp (i + 1, _) ⟨by (repeat (first | exact trivial | refine ⟨rfl, ?_⟩)), by (repeat (first | exact Subl.nil | refine Subl.cons (by (repeat (first | exact Take.here | apply Take.there))) ?_))⟩ ⟨hin, by simp only; omega⟩
  · have hie : i = (mrgF m).length := by omega
    subst hie
    rw [List.take_length, List.take_of_length_le (l := l) (by omega)]
    repeat' (first | refine Sp.h ?_ | refine Lk.r rfl ?_ | refine Rf.mk rfl ?_ | (apply Bd.f; (focus (first | assumption | omega | exact Bool.false_ne_true))) | (apply Nm.r; (focus repeat (first | apply LN.cons | exact LN.nil))) | fail)
    exact ⟨_, _, .tup (.same (.same (.nil (by (repeat (first | exact Subl.nil | refine Subl.cons (by (repeat (first | exact Take.here | apply Take.there))) ?_)))))), _, rfl, rfl⟩
end Go.Proofs.YtpgpdmmobblffaaGreat
namespace Go.CF
open Go
section
variable {Γ : Cx} {k : List KI} {e : EA} {o : List Res} {N : NA} {c : Cls} {d : Tmp} {ty : TypeId} {x y z : Operand} {t u : TypeId} {kk : IntKind} {i : Int}
instance {v : Value} {s j m : Nat} : Sp (Ap1 Γ c d (.call { callee := .builtin .len, args := #[x], argTypes := #[t] }) ty e o N x (.os v s j m)) (Lk (slE Γ.tt t) fun _ => N ((d, .val (.int .i64 (m : Int))) :: e) o) := ⟨fun ⟨p, hp, hn⟩ => ⟨fun ha => ⟨fun env hh G Os cn => by
  obtain ⟨w, h1, q, len, cap, rfl, hle, rfl⟩ := cn.get ha
  obtain ⟨ti, t1, t2, t3⟩ := slE_spec hp
  exact St.len Γ.ok t1 t2 h1 (CN.mk (cn.put d (a := .val _) rfl) hn)⟩⟩⟩
instance {v : Value} {s j m : Nat} : Sp (Ap2 Γ c d (.indexAddr t x y) ty e o N x (.os v s j m) y (.val (.int kk i))) (Lk (slE Γ.tt t) fun p => TkA o v fun _ sz _ _ _ => Rf (p.2.size = sz ∧ s = sz) (Sx i m fun q => N ((d, .oe v sz (j + q) 0) :: e) o)) := ⟨fun ⟨p, hp, α, T, sz, l, f, rest, tk, hz, q, hi, hq, hn⟩ => ⟨fun ha hb => ⟨fun env hh G Os cn => by
  obtain ⟨hz, rfl⟩ := hz
  obtain ⟨w, h1, q', len, cap, rfl, hle, rfl⟩ := cn.get ha
  obtain ⟨w', h1', h2'⟩ := cn.get hb
  have hw : w' = .int kk i := h2'
  subst hw
  obtain ⟨O, Os', cn2⟩ := cn.take tk
  obtain ⟨⟨_, rows, hw, _⟩, _⟩ := cn2.hp.own
  obtain ⟨ti, t1, t2, t3⟩ := slE_spec hp
  rcases hw.ok with ⟨he, h0⟩ | ⟨b, of, cap', L, he, _, _, hcap, _⟩
  · cases he; omega
  · cases he
    have hs : subA (some ⟨b, of, none⟩) s j cap = some ⟨b, of + j * s, none⟩ := by
      unfold subA
      rw [if_neg (by omega)]
      simp [addr_add]
    rw [hs] at h1
    exact St.indexAddr Γ.ok t1 t2 t3 h1 h1' hi hq (CN.mk (cn.put d (a := .oe _ s (j + q) 0) ⟨b, of, _, cap, rfl, by rw [hz, Nat.add_zero, Nat.add_mul, Nat.add_assoc]⟩) hn)⟩⟩⟩
theorem ALe.tup {l m : List AV} (r : RLe l m) : ALe (.tup l) (.tup m) := ⟨fun ⟨vs, h1, h2⟩ => ⟨vs, h1, r.rep h2⟩⟩
end

/-! ### The library's sorts -/
section
open Go.Sort
theorem putCells_list {α : Type} [Inhabited α] (enc : α → Value) (o : Nat) (d : List α) (c : List Value) (hd : o + d.length ≤ c.length) :
    putCells enc o d.toArray c.toArray = (c.take o ++ d.map enc ++ c.drop (o + d.length)).toArray := by
  apply Array.ext'
  simp only [putCells]
  refine List.ext_getElem? fun q => ?_
  simp only [Array.toList_mapIdx, List.getElem?_mapIdx, List.size_toArray]
  by_cases g1 : q < o
  · have h2 : q < c.length := by omega
    rw [List.append_assoc, List.getElem?_append_left (by simp; omega), List.getElem?_take, if_pos g1, List.getElem?_eq_getElem h2, Option.map_some, if_neg (by omega)]
  · by_cases g2 : q < o + d.length
    · have h2 : q < c.length := by omega
      have h3 : q - o < d.length := by omega
      rw [List.getElem?_append_left (by simp; omega), List.getElem?_append_right (by simp; omega), List.getElem?_eq_getElem h2, Option.map_some, if_pos (by omega), List.length_take, Nat.min_eq_left (by omega), List.getElem?_map, List.getElem?_eq_getElem h3]
      simp [getElem!_pos, h3]
    · rw [List.getElem?_append_right (by simp; omega), List.getElem?_drop]
      simp only [List.length_append, List.length_take, List.length_map, Nat.min_eq_left (show o ≤ c.length by omega)]
      rw [show o + d.length + (q - (o + d.length)) = q by omega]
      cases hq : c[q]? with
      | none => rfl
      | some x => rw [Option.map_some, if_neg (by omega)]
/-- A row of one's own behind a sort. -/
theorem put_own {α : Type} [Inhabited α] {enc : α → Value} {w w' : World} {b of n cap len T sz : Nat} {L : List Value} {ds : List α} {os : Array Obj} (hb : Blk w.heap b T L) (ho : of + cap * sz ≤ L.length) (hlen : len ≤ cap) (hd : ds.length = len * sz)
    (hw' : w' = Sort.grow (putRow enc (Sort.ahead w n) b of ds.toArray) os) :
    Same w w' ∧ FPx (fun x => ¬ x = b) w.heap w'.heap ∧ Own w'.heap (.slice (some ⟨b, of, none⟩) len cap) T sz len (ds.map enc) := by
  have hm : len * sz ≤ cap * sz := Nat.mul_le_mul_right _ hlen
  have hg := hb.get
  have hlt := (Array.getElem?_eq_some_iff.1 hg).1
  have hh : w'.heap = w.heap.modify b (onCells (putCells enc of ds.toArray)) ++ os := by rw [hw']; rfl
  refine ⟨by subst hw'; exact ⟨rfl, rfl, rfl, Nat.le_add_right _ _⟩, ⟨?_, fun q hq hl => ?_⟩, by simp [hd], .inr ⟨b, of, cap, L.take of ++ ds.map enc ++ L.drop (of + ds.length), rfl, ⟨?_⟩, ?_, hlen, ?_⟩⟩
  · rw [hh]; simp
  · rw [hh, Array.getElem?_append_left (by simpa using hl), Array.getElem?_modify, if_neg (fun e => hq e.symm)]
  · rw [hh, Array.getElem?_append_left (by simpa using hlt), Array.getElem?_modify, if_pos rfl, hg, Option.map_some]
    simp only [onCells]
    rw [putCells_list enc of ds L (by omega)]
  · simp only [List.length_append, List.length_take, List.length_map, List.length_drop]
    omega
  · rw [List.append_assoc, List.drop_append_of_le_length (by simp; omega), List.drop_eq_nil_of_le (by simp; omega), List.nil_append, List.take_append_of_le_length (by simp; omega), List.take_of_length_le (by simp; omega)]
theorem holds_blk {w : World} {b of T : Nat} {L : List Value} (hb : Blk w.heap b T L) {α : Type} [Inhabited α] (enc : α → Value) (ds : List α) (hd : (L.drop of).take ds.length = ds.map enc) : Holds enc w b of ds.toArray := by
  intro j hj
  have hj : j < ds.length := by simpa using hj
  have h1 : ((L.drop of).take ds.length)[j]? = some (enc ds[j]) := by rw [hd]; simp [hj]
  rw [List.getElem?_take, if_pos hj, List.getElem?_drop] at h1
  have hg := hb.get
  constructor
  · simp only [World.cell?, hg]
    simp [h1, hj]
  · simp [World.frozen?, hg]
open Go.Proofs in
end
end Go.CF
namespace Go.Proofs.YtpgpdmmobblffaaGreat
open Go Go.CF
set_option maxRecDepth 20000
abbrev i1 : Int → List AV := fun x => [.val (.int .i64 x)]
/-- A list without what equals what stands ahead of it. -/
noncomputable def ddN {α : Type} (l : List α) : Nat → List α
  | 0 => []
  | i + 1 => @ite _ (0 < i ∧ l[i]? = l[i - 1]?) (Classical.propDecidable _) (ddN l i) (ddN l i ++ l[i]?.toList)
noncomputable def dd {α : Type} (l : List α) : List α := ddN l l.length
theorem ddN_eq {α : Type} {l : List α} {i : Nat} (h0 : 0 < i) (h : l[i]? = l[i - 1]?) : ddN l (i + 1) = ddN l i := by
  rw [ddN]; exact @if_pos _ (Classical.propDecidable _) ⟨h0, h⟩ _ _ _
theorem ddN_ne {α : Type} {l : List α} {i : Nat} {x : α} (hx : l[i]? = some x) (h : 0 < i → l[i]? ≠ l[i - 1]?) : ddN l (i + 1) = ddN l i ++ [x] := by
  rw [ddN, hx]
  exact @if_neg _ (Classical.propDecidable _) (fun e => h e.1 (by rw [hx]; exact e.2)) _ _ _
theorem ddN_len {α : Type} {l : List α} : ∀ i, (ddN l i).length ≤ i
  | 0 => Nat.le_refl _
  | i + 1 => by
    have := ddN_len (l := l) i
    rw [ddN]
    cases l[i]? <;> (split <;> simp <;> omega)
/-- As long asx no two are equal, nothing is left out. -/
theorem ddN_take {α : Type} {l : List α} {i : Nat} (hi : i ≤ l.length) (h : ∀ j, 0 < j → j < i → l[j]? ≠ l[j - 1]?) : ddN l i = l.take i := by
  induction i with
  | zero => rfl
  | succ i ih =>
    have hx := List.getElem?_eq_getElem (show i < l.length by omega)
    rw [ddN_ne hx (fun h0 => h i h0 (by omega)), ih (by omega) (fun j h1 h2 => h j h1 (by omega)), List.take_add_one, hx]; rfl
end Go.Proofs.YtpgpdmmobblffaaGreat
namespace Go.Proofs.YtpgpdmmobblffaaGreat
open Go Go.CF
set_option maxRecDepth 20000
theorem fgK_len (c : List Int) (l : List MkS) : (fgK c l).length ≤ l.length := List.length_filter_le _ _
theorem fgK_succ {c : List Int} {l : List MkS} {i : Nat} {x : MkS} (hx : l[i]? = some x) : fgK c (l.take (i + 1)) = fgK c (l.take i) ++ if HasC c x.rep x.num then [] else [x] := by
  rw [List.take_add_one, hx, fgK, List.filter_append]
  by_cases h : HasC c x.rep x.num
  · rw [if_pos h]; simp [fgK, h]
  · rw [if_neg h]; simp [fgK, h]
theorem unseen_p (l : List MkS) (c : List Int) (hl : l.length ≤ 100000) : CallP Tryz.prog 53 [mks l, ints c] (mks (fgK c l)) := by
  have hln := fgK_len c l
  refine CallA.fz (T := 47) (by omega) ?_
  refine CallA.of pg ord53 Tryz.func53 rfl Tryz.ntmps53 Tryz.results53 rfl fun h0 G0 O0 => ?_
  repeat' (first | refine Sp.h ?_ | refine Lk.r rfl ?_ | refine Rf.mk rfl ?_ | (refine All.mk ?_; intro _) | (apply Fk.r; (focus (repeat (first | exact FillA.nil | (apply FillA.agg; (focus rfl); (focus rfl); (focus (repeat (first | exact SetAs.z | (apply SetAs.c; (focus (repeat (first | assumption | exact SetA.z | apply SetA.s)))))))) | (apply FillA.one; (focus rfl); (focus infer_instance); (focus (repeat (first | assumption | exact SetA.z | apply SetA.s)))))))) | refine Rf.mk ⟨rfl, rfl, rfl⟩ ?_ | fail)
  rename_i v
  apply CA.retype (m := ([] : List MkS)) (g := mkC)
  focus (repeat (first | exact Take.here | apply Take.there))
  focus rfl
  refine CA.loop (fun x : Nat × Value => ⟨[(0, mks l), (1, ints c), (5, .ow x.2), (6, it x.1)], [arrR x.2 47 4 (fgK c (l.take x.1)) mkC]⟩) (fun x => x.1 ≤ l.length) (fun x => l.length - x.1) (0, v) ⟨by (repeat (first | exact trivial | refine ⟨rfl, ?_⟩)), by (repeat (first | exact Subl.nil | refine Subl.cons (by (repeat (first | exact Take.here | apply Take.there))) ?_))⟩ (Nat.zero_le _) ?_
  rintro ⟨i, w⟩ hi
  simp only at hi
  simp only
  by_cases hin : i < l.length
  · obtain ⟨x, hx⟩ := get_of hin
    have hsu := fgK_succ (c := c) hx
    have hll := fgK_len c (l.take i)
    rw [List.length_take] at hll
    by_cases hh : HasC c x.rep x.num
    · rw [if_pos hh, List.append_nil] at hsu
      repeat' (first | refine Sp.h ?_ | refine Lk.r rfl ?_ | refine Rf.mk rfl ?_ | (apply Bd.t; (focus (first | assumption | omega | rfl))) | refine OpK.r rfl ?_ | (refine Im.mk ?_; intro _) | (apply Ix.q; (focus exact rfl); (focus assumption)) | (apply Fk.r; (focus (repeat (first | exact FillA.nil | (apply FillA.agg; (focus rfl); (focus rfl); (focus (repeat (first | exact SetAs.z | (apply SetAs.c; (focus (repeat (first | assumption | exact SetA.z | apply SetA.s)))))))) | (apply FillA.one; (focus rfl); (focus infer_instance); (focus (repeat (first | assumption | exact SetA.z | apply SetA.s)))))))) | (apply CA.draw; (focus rfl); (focus kernel_rfl); (focus kernel_rfl); (focus repeat' (first | apply ON.one | exact ON.done | exact ON.none | apply ON.alt)); (focus rfl)) | (apply Ov.n; (focus first | omega | (simp <;> omega))) | fail | (apply Cl.p (hasR_p _ _ _); (focus repeat' (first | exact Lend.nil | apply Lend.keep | fail))))
      all_goals rw [← hsu]
      all_goals exact PA.lp (i + 1, w) ⟨by (repeat (first | exact trivial | refine ⟨rfl, ?_⟩)), by (repeat (first | exact Subl.nil | refine Subl.cons (by (repeat (first | exact Take.here | apply Take.there))) ?_))⟩ ⟨hin, by simp only; omega⟩
    · rw [if_neg hh] at hsu
      repeat' (first | refine Sp.h ?_ | refine Lk.r rfl ?_ | refine Rf.mk rfl ?_ | (apply Bd.t; (focus (first | assumption | omega | rfl))) | (apply Bd.f; (focus (first | assumption | omega | exact Bool.false_ne_true))) | refine OpK.r rfl ?_ | (apply Om.mk; (focus first | omega | (simp <;> omega))) | (refine Im.mk ?_; intro _) | (refine All.mk ?_; intro _) | (apply TkA.r; (focus (repeat (first | exact Take.here | apply Take.there)))) | (apply Ix.q; (focus exact rfl); (focus assumption)) | refine Ce.r ?_ | refine Ch.l ⟨rfl, rfl⟩ ?_ | (apply Fk.r; (focus (repeat (first | exact FillA.nil | (apply FillA.agg; (focus rfl); (focus rfl); (focus (repeat (first | exact SetAs.z | (apply SetAs.c; (focus (repeat (first | assumption | exact SetA.z | apply SetA.s)))))))) | (apply FillA.one; (focus rfl); (focus infer_instance); (focus (repeat (first | assumption | exact SetA.z | apply SetA.s)))))))) | refine Rf.mk ⟨rfl, rfl⟩ ?_ | refine Rf.mk ⟨rfl, rfl, rfl⟩ ?_ | (apply Mp.lit; (focus repeat (first | exact MpL.nil | (apply MpL.cons; (focus rfl)) | (apply MpL.inv; (focus repeat (first | apply LN.cons | exact LN.nil)); (focus infer_instance))))) | (apply CA.draw; (focus rfl); (focus kernel_rfl); (focus kernel_rfl); (focus repeat' (first | apply ON.one | exact ON.done | exact ON.none | apply ON.alt)); (focus rfl)) | (apply Ov.n; (focus first | omega | (simp <;> omega))) | fail | (apply Cl.p (hasR_p _ _ _); (focus repeat' (first | exact Lend.nil | apply Lend.keep | fail))))
      all_goals rw [← hsu]
      all_goals exact PA.lp (i + 1, _) ⟨by (repeat (first | exact trivial | refine ⟨rfl, ?_⟩)), by (repeat (first | exact Subl.nil | refine Subl.cons (by (repeat (first | exact Take.here | apply Take.there))) ?_))⟩ ⟨hin, by simp only; omega⟩
  · have hie : i = l.length := by omega
    subst hie
    rw [List.take_length]
    repeat' (first | refine Sp.h ?_ | refine Lk.r rfl ?_ | refine Rf.mk rfl ?_ | (apply Bd.f; (focus (first | assumption | omega | exact Bool.false_ne_true))) | (refine Im.mk ?_; intro _) | (apply Nm.r; (focus repeat (first | apply LN.cons | exact LN.nil))) | fail)
    exact ⟨_, _, .one (.same (.nil (by (repeat (first | exact Subl.nil | refine Subl.cons (by (repeat (first | exact Take.here | apply Take.there))) ?_))))), _, rfl, rfl⟩
/-- A list and an error code, asx the caller sees them. -/
abbrev resG (q : Int × List MgS) : AV := .tup [mgs q.2, it q.1]
end Go.Proofs.YtpgpdmmobblffaaGreat
namespace Go.CF
open Go
theorem world_grow {w w' : World} (hs : Same w w') (hf : FPx (fun b => ¬ U [] b) w.heap w'.heap) : ∃ q os, w' = Sort.grow (w.drewN q) os := by
  refine ⟨w'.drawn - w.drawn, w'.heap.extract w.heap.size w'.heap.size, ?_⟩
  have hd := hs.drawn
  have hh : w'.heap = w.heap ++ w'.heap.extract w.heap.size w'.heap.size := by
    have hsz := hf.size
    apply Array.ext_getElem?
    intro i
    by_cases hi : i < w.heap.size
    · rw [Array.getElem?_append_left hi, hf.same i (fun ⟨O, hO, _⟩ => by cases hO) hi]
    · rw [Array.getElem?_append_right (by omega), Array.getElem?_extract]
      by_cases h2 : i < w'.heap.size
      · rw [if_pos (by omega), show w.heap.size + (i - w.heap.size) = i by omega]
      · rw [if_neg (by omega), Array.getElem?_eq_none (by omega)]
  cases w' with
  | mk heap tape drawn os output =>
    obtain ⟨h1, h2, h3, h4⟩ := hs
    simp only at h1 h2 h3 h4 hh hd ⊢
    subst h1; subst h2; subst h3
    simp only [Sort.grow, World.drewN]
    congr 1
    omega
theorem flatK_list {α : Type} [Inhabited α] (enc : α → List Value) (k : Nat) (hk : ∀ x, (enc x).length = k) (l : List α) : Sort.flatK enc k l.toArray = (l.map enc).flatten.toArray := by
  have hlen : (l.map enc).flatten.length = l.length * k := by
    rw [flat_len (sz := k) _ (fun r hr => by obtain ⟨x, _, rfl⟩ := List.mem_map.1 hr; exact hk x), List.length_map]
  apply Array.ext
  · simp [hlen, Sort.size_flatK]
  · intro t h1 h2
    have ht : t < l.length * k := by simpa using h1
    have k0 : 0 < k := by rcases Nat.eq_zero_or_pos k with h | h; · subst h; simp at ht
                          · exact h
    have hj : t / k < l.length := (Nat.div_lt_iff_lt_mul k0).2 ht
    have hi : t % k < k := Nat.mod_lt _ k0
    have hx : (enc l[t / k])[t % k]? = some ((enc l[t / k])[t % k]'(by rw [hk]; exact hi)) := List.getElem?_eq_getElem _
    have hf := rows_flat (l.map enc) (t / k) (t % k) (enc l[t / k]) _ (fun r hr => by obtain ⟨x, _, rfl⟩ := List.mem_map.1 hr; exact hk x) (by rw [List.getElem?_map, List.getElem?_eq_getElem hj]; rfl) hx
    rw [Nat.mul_comm, Nat.div_add_mod] at hf
    have h3 := Sort.get_flatK enc k l.toArray t (by simpa using ht)
    rw [getElem!_pos _ t h1] at h3
    rw [h3]
    obtain ⟨h4, h5⟩ := List.getElem?_eq_some_iff.1 hf
    simp only [List.getElem_toArray]
    rw [h5]
    simp [getElem!_pos, hj, hk, hi]
open Go.Proofs in
/-- slices.SortFunc on structs. -/
theorem sortK_a {P : Program} {ρ : Shelf.Ren} (L : SlLaysF0.n6 P ρ) {α : Type} [Inhabited α] (k : Nat) (aE : ∀ w, (isAgg (ρ.t 24)).run P w = .ok true w) (zE : ∀ w, (Go.sizeOf (ρ.t 24)).run P w = .ok k w) (enc : α → List Value) (hk : ∀ x, (enc x).length = k) (h1 : ∀ x, ∀ v ∈ enc x, v.oneCell' = true)
    (cf : α → α → Int) (hO : Sort.SWO (ltOf cf)) {g : FuncId} (eg : ∀ args w, (callFunc g args).run P w = .ok (.enter g args) w)
    (hg : ∀ x y, CallP P g [.agg (valR (enc x)), .agg (valR (enc y))] (.val (.int .i64 (cf x y)))) (v : Value) (T : TypeId) (l : List α) (hl : l.length ≤ 1000000) :
    CallA P (ρ.f 6) [.ow v, .fn g []] [arrR v T k l fun x => valR (enc x)] fun r own => ∃ s : List α, l.Perm s ∧ s.Pairwise (fun x y => cf y x < 0 → False) ∧ r = .tup [] ∧ own = [arrR v T k s fun x => valR (enc x)] := by
  refine ⟨fun h G Os vs hr hp => ?_⟩
  match vs, hr with
  | [w0, w1], ⟨⟨h1', p, len, cap, h2⟩, ⟨cb, h3, h4⟩, _⟩ =>
    subst h1'; subst h3
    match cb, h4 with
    | [], _ =>
    match Os, hp with
    | [O], hp =>
      obtain ⟨⟨hO', rows, hown, hrows⟩, _⟩ := hp.own
      have hre : rows = l.map enc := by
        refine List.ext_getElem? fun q => ?_
        rw [List.getElem?_map]
        cases hq : l[q]? with
        | none =>
          have := List.getElem?_eq_none_iff.1 hq
          have := hrows.len
          rw [List.getElem?_eq_none (by omega)]; rfl
        | some x =>
          obtain ⟨row, g1, g2, _⟩ := hrows.at hq
          rw [g1, repT_val g2.t]; rfl
      subst hre
      have fin : ∀ s : List α, ∀ h' G', Rows h' G' k (s.map enc) s fun x => valR (enc x) := fun s h' G' =>
        ⟨by simp, fun q r x g1 g2 => by
          rw [List.getElem?_map, g2] at g1
          cases g1
          exact ⟨repT_val' _, h1 x⟩, fun r hr => by obtain ⟨x, _, rfl⟩ := List.mem_map.1 hr; exact hk x⟩
      have hflen : ∀ s : List α, (s.map enc).flatten.length = s.length * k := fun s => (fin s h G).flen
      refine ⟨fun w hw => ?_⟩
      subst hw
      rcases hown.ok with ⟨he, h0⟩ | ⟨b, of, cap', L', he, hb, h3, h4, h5⟩
      · have hl0 : l = [] := List.eq_nil_of_length_eq_zero h0
        subst hl0
        subst he
        refine (AnyF.slices_SortFunc_none L none 0 _ w).mono ?_
        rintro e w' ⟨rfl, rfl⟩
        exact ⟨_, rfl, Same.refl _, .tup [], _, G, [O], ⟨[], List.Perm.refl _, List.Pairwise.nil, rfl, rfl⟩, ⟨[], rfl, trivial⟩, ⟨⟨⟨hO', [], by simpa using hown, by simpa using fin [] w'.heap G⟩, trivial⟩, hp.g, hp.g0, hp.o, hp.d, hp.fp⟩⟩
      · subst he
        have hfl : (L'.drop of).take (l.map enc).flatten.length = ((l.map enc).flatten).map id := by rw [hflen, h5, List.map_id]
        have hH : Sort.HoldsK enc k w b of l.toArray := by
          unfold Sort.HoldsK
          rw [flatK_list enc k hk]
          exact holds_blk hb id _ hfl
        have hcmp : CmpLays P g #[] enc k cf b of l.toArray.size w := by
          intro m os dk hdk x y
          have hc := (hg x y).run (sortWorldK enc k w b of m dk os).heap (fun _ => False) [] [.agg (enc x).toArray, .agg (enc y).toArray] ⟨⟨enc x, rfl, repT_val' _, h1 x⟩, ⟨enc y, rfl, repT_val' _, h1 y⟩, trivial⟩
            ⟨trivial, fun _ h => h.elim, fun _ h => h, fun O hO => (by cases hO), List.Pairwise.nil, FPx.refl _⟩
          refine (hc.run _ rfl).mono ?_
          rintro e w' ⟨v, rfl, hsm, r, own', G', Os', ⟨rfl, rfl⟩, hv, hh⟩
          have hv : v = _ := hv
          subst hv
          obtain ⟨q, os', hw'⟩ := world_grow hsm hh.fp
          exact ⟨rfl, q, os', hw'⟩
        refine (AnyQ.slices_SortFunc L k aE zE enc hk h1 cf hO g #[] b of cap' l.toArray w eg hcmp hH hb.lt (by simp; omega)).mono ?_
        rintro e w' ⟨rfl, d', n, os, hpm, hso, hw'⟩
        obtain ⟨s, rfl⟩ : ∃ s : List α, d' = s.toArray := ⟨d'.toList, by simp⟩
        have hsz : s.length = l.length := by simpa using hpm.1
        have hperm : l.Perm s := by
          have := hpm.2.2
          simp only [List.size_toArray, List.extract_toArray, List.extract_eq_take_drop, List.drop_zero, Nat.sub_zero] at this
          rw [List.take_of_length_le (by omega), List.take_of_length_le (by omega)] at this
          exact this.symm
        have hsrt : s.Pairwise (fun x y => cf y x < 0 → False) := by
          rw [List.pairwise_iff_getElem]
          intro i j hi hj hij hlt
          have := hso i j (Nat.zero_le _) hij (by simp; omega)
          simp only [ltOf] at this
          rw [getElem!_pos _ j (by simpa using hj), getElem!_pos _ i (by simpa using hi)] at this
          simp only [List.getElem_toArray, decide_eq_false_iff_not] at this
          exact this hlt
        have hw2 : w' = Sort.grow (Sort.putRow id (Sort.ahead w n) b of (s.map enc).flatten.toArray) os := by
          rw [hw', ← flatK_list enc k hk]; rfl
        obtain ⟨k1, k2, k3⟩ := put_own (ds := (s.map enc).flatten) (sz := k) (len := l.length) (cap := cap') hb h3 h4 (by rw [hflen, hsz]) hw2
        have hOb : ∀ x, O x ↔ x = b := fun x => by rw [hO']; simp [blkOf]
        have k2' : FPx (fun x => ¬ O x) w.heap w'.heap := k2.mono fun x hx e => hx ((hOb x).2 e)
        obtain ⟨k4, _⟩ := hp.upd (R' := arrR (.slice (some ⟨b, of, none⟩) l.length cap') T k s fun x => valR (enc x)) (O' := O) k2'
          (fun x hx => ⟨Nat.lt_of_lt_of_le (hp.o O (by simp) x hx).1 k2.size, .inl hx⟩)
          ⟨hO', _, by rw [List.map_id, ← hsz] at k3; rw [hsz]; rw [hsz] at k3; exact k3, fin _ _ _⟩
        exact ⟨_, rfl, k1, .tup [], _, G, [O], ⟨s, hperm, hsrt, rfl, rfl⟩, ⟨[], rfl, trivial⟩, k4⟩
end Go.CF
namespace Go.CF
open Go
section
variable {Γ : Cx} {k : List KI} {e : EA} {o : List Res} {N : NA} {c : Cls} {d : Tmp} {ty : TypeId} {x y z : Operand} {t u : TypeId} {kk : IntKind} {i : Int}
instance : Sp (Cpv Γ c d t x ty e o N (.val (.slice none 0 0))) (Lk (slE Γ.tt t) fun _ => N ((d, .val (.int .i64 0)) :: e) o) := ⟨fun ⟨p, hp, hn⟩ => ⟨fun ha => ⟨fun env hh G Os cn => by
  obtain ⟨w, h1, h2⟩ := cn.get ha
  have h2 : w = _ := h2
  subst h2
  obtain ⟨ti, t1, t2, t3⟩ := slE_spec hp
  refine St.ofPu (v := .int .i64 0) (fun a w' ha' => ?_) (CN.mk (cn.put d (a := .val _) rfl) hn)
  simp [mkOp, execOp, resolve, invoke, builtin, ha'.ev h1, Builtin.cap_, run_underlying ((Γ.ok.ok _ _ t1).slice t2), goInt]⟩⟩⟩
instance {q : Operand} : Sp (Slp Γ c d t x none (some q) ty e o N (.val (.slice none 0 0))) (Lk (slE Γ.tt t) fun _ => Lk (evA e q) fun a => Nb a fun i => Om (i = 0) (N ((d, .val (.slice none 0 0)) :: e) o)) := ⟨fun ⟨p, hp, _, ha2, kk, i, hk, hi, hn⟩ => ⟨fun ha => ⟨fun env hh G Os cn => by
  obtain ⟨w, h1, h2⟩ := cn.get ha
  have h2 : w = _ := h2
  subst h2
  subst hi
  exact slice_at (c := c) (ty := ty) (lo := none) (hi := some q) cn hp h1 (Nat.le_refl 0) (Nat.le_refl 0) (Nat.zero_le _) rfl ⟨kk, 0, hk ▸ ha2, rfl⟩ (N' := CN Γ N) (CN.mk (cn.put d (a := .val (.slice none 0 0)) (by simp [subA]; rfl)) hn) (.inr (by simp))⟩⟩⟩
instance : Sp (Apz Γ c d t u x y ty e o N (.val (.slice none 0 0)) (.val (.int .i64 i))) (Lk (slE Γ.tt t) fun p => Lk (Γ.tt u) fun ui => Rf (ui.kind = .int .i64) (Rf ((Nat.blt 0 p.2.size && Nat.ble p.2.bytes 1000) = true ∧ p.2.zero.cells.size = p.2.size) 
    (Jx i 100000000000 fun n => Om (0 < n) (All fun w : Value => N ((d, .ox w) :: e) (arrX w p.1 p.2.size [] n :: o))))) := ⟨fun ⟨p, hp, ui, hui, huk, ⟨hs1, hs2⟩, n, hi, hmn, hn0, hn⟩ => ⟨fun ha hb hc => ⟨fun env hh G Os cn => by
  subst hi
  obtain ⟨w, g1, h2⟩ := cn.get ha
  have h2 : w = _ := h2
  subst h2
  obtain ⟨w2, g2, rfl⟩ := cn.get hb
  obtain ⟨ti, t1, t2, t3⟩ := slE_spec hp
  simp only [Bool.and_eq_true, Nat.blt_eq] at hs1
  have hb1000 := Nat.le_of_ble_eq_true hs1.2
  refine .ofLd hc fun a w oo next Q ha' hw' hop hty hnn => ?_
  obtain ⟨ie, dd, hie, hd, hi1, hi2, hi3, _⟩ := (Γ.ok.ok _ _ t3).ok
  have hu := (Γ.ok.ok _ _ t1).slice t2
  have hun := (Γ.ok.ok _ _ hui).int huk
  have hbytes : n * ie.bytes ≤ 281474976710656 := by
    rw [hi2]
    have : n * p.2.bytes ≤ 100000000000 * 1000 := Nat.mul_le_mul (by omega) hb1000
    omega
  have hrz := Lib.run_append_nil_zeros (P := Γ.P) w t u ty p.1 ie p.2.zero .i64 .i64 hu hun hie hi3 n hn0 (by rw [hi1]; exact hs1.1) (by omega) hbytes
  have hge := grownCap_ge w n 0 p.1
  generalize grownCap w n 0 p.1 = cap2 at hrz hge
  have hrun : (execOp a.eval (mkOp (.call { callee := .builtin .append, args := #[x, y], argTypes := #[t, u] }) ty)).run Γ.P w = .ok (.value (.slice (some ⟨w.heap.size, 0, none⟩) n cap2)) (w.drew.alloc (.cells (Builtin.zeroCells p.2.zero.cells n ++ Builtin.zeroCells p.2.zero.cells (cap2 - n)) p.1)) := by
    simp [mkOp, execOp, resolve, invoke, builtin, ha'.ev g1, ha'.ev g2, hrz]
  unfold Oper.wp
  rw [exec_mk, hop, hty, hrun]
  have hheap : (w.drew.alloc (.cells (Builtin.zeroCells p.2.zero.cells n ++ Builtin.zeroCells p.2.zero.cells (cap2 - n)) p.1)).heap = hh.push (.cells ((Builtin.zeroCells p.2.zero.cells n).toList ++ (Builtin.zeroCells p.2.zero.cells (cap2 - n)).toList).toArray p.1 (0, 0)) := by
    simp only [World.alloc, World.drew, hw']
    congr 2
    apply Array.ext'
    simp
  have hnew : New hh hh.size p.1 ((Builtin.zeroCells p.2.zero.cells n).toList ++ (Builtin.zeroCells p.2.zero.cells (cap2 - n)).toList) (w.drew.alloc (.cells (Builtin.zeroCells p.2.zero.cells n ++ Builtin.zeroCells p.2.zero.cells (cap2 - n)) p.1)).heap := ⟨rfl, hheap⟩
  refine hnn _ _ ⟨rfl, rfl, rfl, by first | exact Nat.le_refl _ | exact Nat.le_succ _⟩ ?_
  have hzl : (Builtin.zeroCells p.2.zero.cells n).toList.length = n * p.2.size := by simp [size_zeroCells, hs2]
  have hzl2 : (Builtin.zeroCells p.2.zero.cells (cap2 - n)).toList.length = (cap2 - n) * p.2.size := by simp [size_zeroCells, hs2]
  have hcs : n * p.2.size + (cap2 - n) * p.2.size = cap2 * p.2.size := by rw [← Nat.add_mul]; congr 1; omega
  have c3 := cn.new (R := arrX (.slice (some ⟨hh.size, 0, none⟩) n cap2) p.1 p.2.size [] n) (O := fun y => y = hh.size) hnew (fun y h => h)
    ⟨fun y => by simp [blkOf], ⟨fun r hr => (by cases hr), fun r hr => (by cases hr)⟩, by simp, (Builtin.zeroCells p.2.zero.cells n).toList, by simp [hzl], .inr ⟨hh.size, 0, cap2, _, rfl, hnew.blk, by simp only [List.length_append, hzl, hzl2]; omega, by omega, by simp [hzl]⟩⟩
  rw [hw']
  exact CN.mk (c3.put d (a := .ox _) ⟨rfl, _, _, _, rfl⟩) (hn.ok _)⟩⟩⟩
end
end Go.CF
namespace Go.Proofs.YtpgpdmmobblffaaGreat
open Go Go.CF
set_option maxRecDepth 20000
def laysSortK_ren : Go.Shelf.Ren := ⟨fun | 6 => 134 | 15 => 129 | 14 => 162 | 28 => 157 | 29 => 158 | 20 => 172 | 21 => 173 | 22 => 174 | 23 => 175 | 24 => 176 | 25 => 177 | 26 => 178 | 27 => 179 | 46 => 184 | 47 => 167 | 48 => 168 | 49 => 185 | 50 => 186 | 57 => 192 | n => n, fun | 22 => 42 | 24 => 47 | 25 => 153 | 3 => 3 | 39 => 195 | 0 => 0 | 53 => 217 | 55 => 219 | 4 => 4 | 46 => 211 | 45 => 210 | 50 => 190 | 5 => 5 | 9 => 9 | 66 => 229 | 70 => 233 | 76 => 244 | 77 => 241 | n => n, fun | n => n⟩
theorem laysSortK : Go.Proofs.SlLaysF0.n6 Tryz.prog laysSortK_ren := {
  mixed := by kernel_rfl,
  f6 := ⟨Tryz.f134.name, by decide, Tryz.func134.trans (congrArg some (by kernel_rfl))⟩,
  f14 := ⟨Tryz.f162.name, by decide, Tryz.func162.trans (congrArg some (by kernel_rfl))⟩,
  f15 := Tryz.func129.trans (congrArg some (by kernel_rfl)),
  f20 := ⟨Tryz.f172.name, by decide, Tryz.func172.trans (congrArg some (by kernel_rfl))⟩,
  f21 := ⟨Tryz.f173.name, by decide, Tryz.func173.trans (congrArg some (by kernel_rfl))⟩,
  f22 := ⟨Tryz.f174.name, by decide, Tryz.func174.trans (congrArg some (by kernel_rfl))⟩,
  f23 := ⟨Tryz.f175.name, by decide, Tryz.func175.trans (congrArg some (by kernel_rfl))⟩,
  f24 := ⟨Tryz.f176.name, by decide, Tryz.func176.trans (congrArg some (by kernel_rfl))⟩,
  f25 := ⟨Tryz.f177.name, by decide, Tryz.func177.trans (congrArg some (by kernel_rfl))⟩,
  f26 := ⟨Tryz.f178.name, by decide, Tryz.func178.trans (congrArg some (by kernel_rfl))⟩,
  f27 := ⟨Tryz.f179.name, by decide, Tryz.func179.trans (congrArg some (by kernel_rfl))⟩,
  f28 := Tryz.func157.trans (congrArg some (by kernel_rfl)),
  f29 := Tryz.func158.trans (congrArg some (by kernel_rfl)),
  f46 := ⟨Tryz.f184.name, by decide, Tryz.func184.trans (congrArg some (by kernel_rfl))⟩,
  f47 := Tryz.func167.trans (congrArg some (by kernel_rfl)),
  f48 := Tryz.func168.trans (congrArg some (by kernel_rfl)),
  f49 := ⟨Tryz.f185.name, by decide, Tryz.func185.trans (congrArg some (by kernel_rfl))⟩,
  f50 := ⟨Tryz.f186.name, by decide, Tryz.func186.trans (congrArg some (by kernel_rfl))⟩,
  f57 := ⟨Tryz.f192.name, by decide, Tryz.func192.trans (congrArg some (by kernel_rfl))⟩,
  t0 := Tryz.underlying0,
  a0 := Tryz.isAgg0,
  z0 := Tryz.sizeOf0,
  v0 := Tryz.zeroValue0,
  t3 := Tryz.underlying3,
  a3 := Tryz.isAgg3,
  z3 := Tryz.sizeOf3,
  v3 := Tryz.zeroValue3,
  t4 := Tryz.underlying4,
  a4 := Tryz.isAgg4,
  z4 := Tryz.sizeOf4,
  v4 := Tryz.zeroValue4,
  t5 := Tryz.underlying5,
  a5 := Tryz.isAgg5,
  z5 := Tryz.sizeOf5,
  v5 := Tryz.zeroValue5,
  t9 := Tryz.underlying9,
  a9 := Tryz.isAgg9,
  z9 := Tryz.sizeOf9,
  v9 := Tryz.zeroValue9,
  t22 := Tryz.underlying42,
  a22 := Tryz.isAgg42,
  z22 := Tryz.sizeOf42,
  v22 := Tryz.zeroValue42,
  t25 := Tryz.underlying153,
  a25 := Tryz.isAgg153,
  z25 := Tryz.sizeOf153,
  v25 := Tryz.zeroValue153,
  t39 := Tryz.underlying195,
  a39 := Tryz.isAgg195,
  z39 := Tryz.sizeOf195,
  v39 := Tryz.zeroValue195,
  t45 := Tryz.underlying210,
  a45 := Tryz.isAgg210,
  z45 := Tryz.sizeOf210,
  v45 := Tryz.zeroValue210,
  t46 := Tryz.underlying211,
  a46 := Tryz.isAgg211,
  z46 := Tryz.sizeOf211,
  v46 := Tryz.zeroValue211,
  t50 := Tryz.underlying190,
  a50 := Tryz.isAgg190,
  z50 := Tryz.sizeOf190,
  v50 := Tryz.zeroValue190,
  t53 := Tryz.underlying217,
  a53 := Tryz.isAgg217,
  z53 := Tryz.sizeOf217,
  v53 := Tryz.zeroValue217,
  t55 := Tryz.underlying219,
  a55 := Tryz.isAgg219,
  z55 := Tryz.sizeOf219,
  v55 := Tryz.zeroValue219,
  t66 := Tryz.underlying229,
  a66 := Tryz.isAgg229,
  z66 := Tryz.sizeOf229,
  v66 := Tryz.zeroValue229,
  t70 := Tryz.underlying233,
  a70 := Tryz.isAgg233,
  z70 := Tryz.sizeOf233,
  v70 := Tryz.zeroValue233,
  t76 := Tryz.underlying244,
  a76 := Tryz.isAgg244,
  z76 := Tryz.sizeOf244,
  v76 := Tryz.zeroValue244,
  t77 := Tryz.underlying241,
  a77 := Tryz.isAgg241,
  z77 := Tryz.sizeOf241,
  v77 := Tryz.zeroValue241 }
theorem pw_uniq {α : Type} {R : α → α → Prop} (has : ∀ a b, R a b → ¬ R b a) : ∀ s t : List α, s.Pairwise R → t.Pairwise R → (∀ x, x ∈ s ↔ x ∈ t) → s = t := by
  intro s
  induction s with
  | nil =>
    intro t _ _ h
    cases t with
    | nil => rfl
    | cons b t => exact absurd ((h b).2 (by simp)) (by simp)
  | cons a s ih =>
    intro t hs ht h
    cases t with
    | nil => exact absurd ((h a).1 (by simp)) (by simp)
    | cons b t =>
      obtain ⟨h1, h2⟩ := List.pairwise_cons.1 hs
      obtain ⟨h3, h4⟩ := List.pairwise_cons.1 ht
      have hab : a = b := by
        rcases List.mem_cons.1 ((h a).1 (by simp)) with e | e
        · exact e
        · rcases List.mem_cons.1 ((h b).2 (by simp)) with e2 | e2
          · exact e2.symm
          · exact absurd (h3 a e) (has _ _ (h1 b e2))
      subst hab
      rw [ih t h2 h4 fun x => ?_]
      have := h x
      simp only [List.mem_cons] at this
      constructor
      · intro hx
        rcases this.1 (.inr hx) with e | e
        · subst e; exact absurd (h1 _ hx) (fun h9 => has _ _ h9 h9)
        · exact e
      · intro hx
        rcases this.2 (.inr hx) with e | e
        · subst e; exact absurd (h3 _ hx) (fun h9 => has _ _ h9 h9)
        · exact e
theorem grow0_a (n : Nat) (hn : n ≤ 1000000) : CallA Tryz.prog 161 [.val (.slice none 0 0), it n] [] fun r own => ∃ w, r = .ow w ∧ own = [arrR w 47 4 ([] : List MkS) mkC] := by
  refine CallA.of pg ord161 Tryz.func161 rfl Tryz.ntmps161 Tryz.results161 rfl fun h0 G0 O0 => ?_
  by_cases h0 : n = 0
  · subst h0
    repeat' (first | refine Sp.h ?_ | refine Lk.r rfl ?_ | refine Rf.mk rfl ?_ | (apply Bd.f; (focus (first | assumption | omega | exact Bool.false_ne_true))) | (apply Nm.r; (focus repeat (first | apply LN.cons | exact LN.nil))) | (apply Ov.n; (focus first | omega | (simp <;> omega))) | fail)
    exact ⟨_, _, .one (.nils (.nil (by (repeat (first | exact Subl.nil | refine Subl.cons (by (repeat (first | exact Take.here | apply Take.there))) ?_))))), _, rfl, rfl⟩
  · (repeat' (first | (show CA _ _ Code.ret _ _; apply Stopped.out) | refine Sp.h ?_ | refine Lk.r rfl ?_ | refine Rf.mk rfl ?_ | (apply Bd.t; (focus (first | assumption | omega | rfl))) | (apply Bd.f; (focus (first | assumption | omega | exact Bool.false_ne_true))) | (apply Om.mk; (focus first | omega | (simp <;> omega))) | (refine All.mk ?_; intro _) | refine Rf.mk ⟨rfl, rfl⟩ ?_ | (apply Jx.r; (focus exact rfl); (focus first | omega | (simp; done) | (simp; omega))) | (apply Ov.n; (focus first | omega | (simp <;> omega))) | (apply TkX.r; (focus (repeat (first | exact Take.here | apply Take.there)))) | (apply ExX.short; (focus rfl); (focus first | omega | (simp <;> omega)); (focus first | omega | (simp <;> omega))) | fail)); any_goals apply Stopped.mk
    apply CA.retype (m := ([] : List MkS)) (g := mkC)
    focus (repeat (first | exact Take.here | apply Take.there))
    focus rfl
    repeat' (first | refine Sp.h ?_ | refine Lk.r rfl ?_ | (apply Nm.r; (focus repeat (first | apply LN.cons | exact LN.nil))) | fail)
    exact ⟨_, _, .one (.same (.nil (by (repeat (first | exact Subl.nil | refine Subl.cons (by (repeat (first | exact Take.here | apply Take.there))) ?_))))), _, rfl, rfl⟩
abbrev mkss (ll : List (List MkS)) : AV := .sl 1 ll fun l => [mks l]
theorem flat_le {α : Type} (ll : List (List α)) (i : Nat) : (ll.take i).flatten.length ≤ ll.flatten.length := by
  have h := congrArg (fun z => z.flatten.length) (List.take_append_drop i ll)
  simp only [List.flatten_append, List.length_append] at h
  omega
theorem flat_succ {α : Type} {ll : List (List α)} {i : Nat} {l : List α} (h : ll[i]? = some l) : (ll.take (i + 1)).flatten = (ll.take i).flatten ++ l := by
  rw [List.take_add_one, h]; simp
theorem concat_a (ll : List (List MkS)) (hl : ll.flatten.length ≤ 100000) : CallA Tryz.prog 133 [mkss ll] [] fun r own => ∃ w, r = .ow w ∧ own = [arrR w 47 4 ll.flatten mkC] := by
  have hg := grow0_a ll.flatten.length (by omega)
  refine CallA.of pg ord133 Tryz.func133 rfl Tryz.ntmps133 Tryz.results133 rfl fun h0 G0 O0 => ?_
  repeat' (first | refine Sp.h ?_ | refine Lk.r rfl ?_ | refine Rf.mk rfl ?_ | (refine Im.mk ?_; intro _) | fail)
  refine CA.loop (fun i : Nat => ⟨[(0, mkss ll), (3, it ((ll.take i).flatten.length : Nat)), (9, mkss ll), (10, it (ll.length : Nat)), (11, it i)], []⟩) (fun i => i ≤ ll.length) (fun i => ll.length - i) 0 ⟨by (repeat (first | exact trivial | refine ⟨rfl, ?_⟩)), by (repeat (first | exact Subl.nil | refine Subl.cons (by (repeat (first | exact Take.here | apply Take.there))) ?_))⟩ (Nat.zero_le _) ?_
  intro i hi
  have hf := flat_le ll i
  by_cases hin : i < ll.length
  · obtain ⟨l, hx⟩ := get_of hin
    have hs : (((ll.take (i + 1)).flatten.length : Nat) : Int) = ((ll.take i).flatten.length : Nat) + (l.length : Nat) := by rw [flat_succ hx]; simp
    have hf2 := flat_le ll (i + 1)
    repeat' (first | refine Sp.h ?_ | refine Lk.r rfl ?_ | refine Rf.mk rfl ?_ | (apply Bd.t; (focus (first | assumption | omega | rfl))) | (apply Bd.f; (focus (first | assumption | omega | exact Bool.false_ne_true))) | (refine Im.mk ?_; intro _) | (apply Ix.q; (focus exact rfl); (focus assumption)) | (apply Ov.n; (focus first | omega | (simp <;> omega))) | fail)
    rw [← hs]
    exact PA.lp (i + 1) ⟨by (repeat (first | exact trivial | refine ⟨rfl, ?_⟩)), by (repeat (first | exact Subl.nil | refine Subl.cons (by (repeat (first | exact Take.here | apply Take.there))) ?_))⟩ ⟨hin, by omega⟩
  · have hie : i = ll.length := by omega
    subst hie
    rw [List.take_length]
    repeat' (first | refine Sp.h ?_ | refine Lk.r rfl ?_ | refine Rf.mk rfl ?_ | (apply Bd.f; (focus (first | assumption | omega | exact Bool.false_ne_true))) | fail)
    (apply Cl.use (hg); (focus repeat' (first | exact Lend.nil | apply Lend.keep | fail)); (focus (repeat (first | exact Takes.nil | (apply Takes.cons; (focus (repeat (first | exact Take.here | apply Take.there))))))); (focus rfl))
    rintro _ _ ⟨w0, rfl, rfl⟩
    repeat' (first | refine Sp.h ?_ | refine Lk.r rfl ?_ | refine Rf.mk rfl ?_ | (refine Im.mk ?_; intro _) | fail)
    refine CA.loop (fun x : Nat × Value => ⟨[(6, .ow x.2), (25, mkss ll), (26, it (ll.length : Nat)), (27, it x.1)], [arrR x.2 47 4 (ll.take x.1).flatten mkC]⟩) (fun x => x.1 ≤ ll.length) (fun x => ll.length - x.1) (0, w0) ⟨by (repeat (first | exact trivial | refine ⟨rfl, ?_⟩)), by (repeat (first | exact Subl.nil | refine Subl.cons (by (repeat (first | exact Take.here | apply Take.there))) ?_))⟩ (Nat.zero_le _) ?_
    rintro ⟨i, w⟩ hi
    simp only at hi
    simp only
    have hf := flat_le ll i
    by_cases hin : i < ll.length
    · obtain ⟨l, hx⟩ := get_of hin
      have hs := flat_succ hx
      have hf2 := flat_le ll (i + 1)
      rw [hs, List.length_append] at hf2
      repeat' (first | refine Sp.h ?_ | refine Lk.r rfl ?_ | refine Rf.mk rfl ?_ | (apply Bd.t; (focus (first | assumption | omega | rfl))) | (apply Om.mk; (focus first | omega | (simp <;> omega))) | (refine All.mk ?_; intro _) | (apply TkA.r; (focus (repeat (first | exact Take.here | apply Take.there)))) | (apply Ix.q; (focus exact rfl); (focus assumption)) | refine Ce.r ?_ | refine Rf.mk ⟨rfl, rfl⟩ ?_ | refine Mp.same ?_ | (apply Ov.n; (focus first | omega | (simp <;> omega))) | fail)
      rw [← hs]
      exact PA.lp (i + 1, _) ⟨by (repeat (first | exact trivial | refine ⟨rfl, ?_⟩)), by (repeat (first | exact Subl.nil | refine Subl.cons (by (repeat (first | exact Take.here | apply Take.there))) ?_))⟩ ⟨hin, by simp only; omega⟩
    · have hie : i = ll.length := by omega
      subst hie
      rw [List.take_length]
      repeat' (first | refine Sp.h ?_ | refine Lk.r rfl ?_ | refine Rf.mk rfl ?_ | (apply Bd.f; (focus (first | assumption | omega | exact Bool.false_ne_true))) | (apply Nm.r; (focus repeat (first | apply LN.cons | exact LN.nil))) | fail)
      exact ⟨_, _, .one (.same (.nil (by (repeat (first | exact Subl.nil | refine Subl.cons (by (repeat (first | exact Take.here | apply Take.there))) ?_))))), _, rfl, rfl⟩
instance : Inhabited MkS := ⟨⟨0, 0, 0, 0⟩⟩
theorem cmpK_swo : Sort.SWO (Go.Proofs.ltOf cmpK) where
  irrefl x := by simp only [Go.Proofs.ltOf, decide_eq_false_iff_not, cmpK_neg, LtK]; omega
  trans x y z h1 h2 := by simp only [Go.Proofs.ltOf, decide_eq_true_eq, cmpK_neg, LtK] at *; omega
  ntrans x y z h1 h2 := by simp only [Go.Proofs.ltOf, decide_eq_false_iff_not, cmpK_neg, LtK] at *; omega
theorem sortM_a (v : Value) (l : List MkS) (hl : l.length ≤ 1000000) : CallA Tryz.prog 134 [.ow v, .fn 95 []] [arrR v 47 4 l mkC] fun r own => ∃ s : List MkS, l.Perm s ∧ s.Pairwise (fun x y => cmpK y x < 0 → False) ∧ r = .tup [] ∧ own = [arrR v 47 4 s mkC] :=
  sortK_a laysSortK 4 Tryz.isAgg47 Tryz.sizeOf47 mkV (fun _ => rfl) (fun x u hu => by simp [mkV] at hu; rcases hu with rfl | rfl | rfl | rfl <;> rfl) cmpK cmpK_swo (Proofs.enters_of Tryz.func95 (by kernel_rfl) rfl) (fun x y => compareK_p x y) v 47 l hl
set_option maxHeartbeats 2000000 in
theorem compactK_a (w : Value) (l : List MkS) (hl : l.length ≤ 1000000) : CallA Tryz.prog 135 [.ow w] [arrR w 47 4 l mkC] fun q own => ∃ w', q = .ow w' ∧ own = [arrR w' 47 4 (dd l) mkC] := by
  refine CallA.of pg ord135 Tryz.func135 rfl Tryz.ntmps135 Tryz.results135 rfl fun h0 G0 O0 => ?_
  by_cases h2 : l.length < 2
  · have he : dd l = l := by
      rw [dd, ddN_take (Nat.le_refl _) (fun j h1 h3 => by omega), List.take_length]
    rw [he]
    repeat' (first | refine Sp.h ?_ | refine Lk.r rfl ?_ | refine Rf.mk rfl ?_ | (apply Bd.t; (focus (first | assumption | omega | rfl))) | (apply TkA.r; (focus (repeat (first | exact Take.here | apply Take.there)))) | (apply Nm.r; (focus repeat (first | apply LN.cons | exact LN.nil))) | fail)
    exact ⟨_, _, .one (.same (.nil (by (repeat (first | exact Subl.nil | refine Subl.cons (by (repeat (first | exact Take.here | apply Take.there))) ?_))))), _, rfl, rfl⟩
  repeat' (first | refine Sp.h ?_ | refine Lk.r rfl ?_ | refine Rf.mk rfl ?_ | (apply Bd.f; (focus (first | assumption | omega | exact Bool.false_ne_true))) | (apply TkA.r; (focus (repeat (first | exact Take.here | apply Take.there)))) | fail)
  refine CA.loop (fun k : Nat => ⟨[(0, .ow w), (3, it k)], [arrR w 47 4 l mkC]⟩) (fun k => 1 ≤ k ∧ k ≤ l.length ∧ ∀ j, 0 < j → j < k → l[j]? ≠ l[j - 1]?) (fun k => l.length - k) 1 ⟨by (repeat (first | exact trivial | refine ⟨rfl, ?_⟩)), by (repeat (first | exact Subl.nil | refine Subl.cons (by (repeat (first | exact Take.here | apply Take.there))) ?_))⟩ ⟨Nat.le_refl _, by omega, fun j h1 h3 => by omega⟩ ?_
  rintro k ⟨h1, h3, h4⟩
  by_cases hk : k < l.length
  rotate_left
  · have hke : k = l.length := by omega
    have he : dd l = l := by rw [dd, ← hke, ddN_take h3 h4, hke, List.take_length]
    rw [he]
    repeat' (first | refine Sp.h ?_ | refine Lk.r rfl ?_ | refine Rf.mk rfl ?_ | (apply Bd.f; (focus (first | assumption | omega | exact Bool.false_ne_true))) | (apply TkA.r; (focus (repeat (first | exact Take.here | apply Take.there)))) | (apply Nm.r; (focus repeat (first | apply LN.cons | exact LN.nil))) | fail)
    exact ⟨_, _, .one (.same (.nil (by (repeat (first | exact Subl.nil | refine Subl.cons (by (repeat (first | exact Take.here | apply Take.there))) ?_))))), _, rfl, rfl⟩
  obtain ⟨x, hx⟩ := get_of hk
  obtain ⟨y, hy⟩ := get_of (l := l) (i := k - 1) (by omega)
  by_cases hxy : x = y
  rotate_left
  · have hv : ¬ [x.rep, x.num, x.time, x.val] = [y.rep, y.num, y.time, y.val] := fun h9 => hxy (by simp only [List.cons.injEq, and_true] at h9; exact mks_ext h9.1 h9.2.1 h9.2.2.1 h9.2.2.2)
    repeat' (first | refine Sp.h ?_ | refine Lk.r rfl ?_ | refine Rf.mk rfl ?_ | (apply Bd.t; (focus (first | assumption | omega | rfl))) | (apply Bd.f; (focus (first | assumption | omega | exact Bool.false_ne_true))) | refine OpK.r rfl ?_ | (apply TkA.r; (focus (repeat (first | exact Take.here | apply Take.there)))) | (apply Ix.q; (focus exact rfl); (focus assumption)) | (apply Ix.r; (focus assumption); (focus omega)) | (apply At.r; (focus assumption)) | refine Ch.l ⟨rfl, rfl⟩ ?_ | (apply Il.r; (focus repeat (first | apply ILit.cons | exact ILit.nil))) | (apply Kf.mk; (focus kernel_rfl)) | (apply CA.draw; (focus rfl); (focus kernel_rfl); (focus kernel_rfl); (focus repeat' (first | apply ON.one | exact ON.done | exact ON.none | apply ON.alt)); (focus rfl)) | (apply Ov.n; (focus first | omega | (simp <;> omega))) | fail)
    refine PA.lp (k + 1) ⟨by (repeat (first | exact trivial | refine ⟨rfl, ?_⟩)), by (repeat (first | exact Subl.nil | refine Subl.cons (by (repeat (first | exact Take.here | apply Take.there))) ?_))⟩ ⟨⟨by omega, hk, fun j g1 g2 => ?_⟩, by omega⟩
    by_cases hj : j = k
    · subst hj; rw [hx, hy]; exact fun e => hxy (by cases e; rfl)
    · exact h4 j g1 (by omega)
  have hv : [x.rep, x.num, x.time, x.val] = [y.rep, y.num, y.time, y.val] := by rw [hxy]
  repeat' (first | refine Sp.h ?_ | refine Lk.r rfl ?_ | refine Rf.mk rfl ?_ | (apply Bd.t; (focus (first | assumption | omega | rfl))) | refine OpK.r rfl ?_ | (apply TkA.r; (focus (repeat (first | exact Take.here | apply Take.there)))) | (apply Ix.q; (focus exact rfl); (focus assumption)) | (apply Ix.r; (focus assumption); (focus omega)) | (apply At.r; (focus assumption)) | refine Ch.l ⟨rfl, rfl⟩ ?_ | (apply Jx.r; (focus exact rfl); (focus first | omega | (simp; done) | (simp; omega))) | (apply Il.r; (focus repeat (first | apply ILit.cons | exact ILit.nil))) | (apply Kf.mk; (focus kernel_rfl)) | (apply CA.draw; (focus rfl); (focus kernel_rfl); (focus kernel_rfl); (focus repeat' (first | apply ON.one | exact ON.done | exact ON.none | apply ON.alt)); (focus rfl)) | (apply Ov.n; (focus first | omega | (simp <;> omega))) | fail)
  refine CA.loop (fun q : Nat × Nat × List MkS => ⟨[(0, .ow w), (3, it q.1), (4, .os w 4 k (l.length - k)), (5, it q.2.1)], [arrR w 47 4 q.2.2 mkC]⟩)
    (fun q => 1 ≤ q.2.1 ∧ q.1 < k + q.2.1 ∧ k + q.2.1 ≤ l.length ∧ q.2.2.length = l.length ∧ q.2.2.take q.1 = ddN l (k + q.2.1) ∧ q.2.2.drop (k + q.2.1 - 1) = l.drop (k + q.2.1 - 1)) (fun q => l.length - q.2.1) (k, 1, l) ⟨by (repeat (first | exact trivial | refine ⟨rfl, ?_⟩)), by (repeat (first | exact Subl.nil | refine Subl.cons (by (repeat (first | exact Take.here | apply Take.there))) ?_))⟩
    ⟨Nat.le_refl _, by simp only; omega, by simp only; omega, rfl, by simp only; rw [ddN_eq (by omega) (by rw [hx, hy, hxy]), ddN_take h3 h4], rfl⟩ ?_
  rintro ⟨i, m, cur⟩ ⟨g1, g2, g3, g4, g5, g6⟩
  simp only at g1 g2 g3 g4 g5 g6
  simp only
  by_cases hm : k + m < l.length
  · obtain ⟨a, ha⟩ := get_of hm
    obtain ⟨b, hb⟩ := get_of (l := l) (i := k + m - 1) (by omega)
    have hca : cur[k + m]? = some a := by
      have := congrArg (fun z => z[1]?) g6
      simp only [List.getElem?_drop] at this
      rw [show k + m - 1 + 1 = k + m by omega] at this
      rw [this, ha]
    have hcb : cur[k + (m - 1)]? = some b := by
      have := congrArg (fun z => z[0]?) g6
      simp only [List.getElem?_drop, Nat.add_zero] at this
      rw [show k + (m - 1) = k + m - 1 by omega, this, hb]
    have h7 : cur.drop (k + m) = l.drop (k + m) := by
      have := congrArg (List.drop 1) g6
      rw [List.drop_drop, List.drop_drop] at this
      rwa [show k + m - 1 + 1 = k + m by omega] at this
    obtain ⟨z, hz⟩ := get_of (l := cur) (i := i) (by omega)
    have hm1 : ((m : Int) - 1) = ((m - 1 : Nat) : Int) := by omega
    by_cases hab : a = b
    · have hv : [a.rep, a.num, a.time, a.val] = [b.rep, b.num, b.time, b.val] := by rw [hab]
      repeat' (first | refine Sp.h ?_ | refine Lk.r rfl ?_ | refine Rf.mk rfl ?_ | (apply Bd.t; (focus (first | assumption | omega | rfl))) | refine OpK.r rfl ?_ | (apply TkA.r; (focus (repeat (first | exact Take.here | apply Take.there)))) | (apply At.r; (focus assumption)) | refine Ch.l ⟨rfl, rfl⟩ ?_ | refine Rf.mk ⟨rfl, rfl⟩ ?_ | (apply Il.r; (focus repeat (first | apply ILit.cons | exact ILit.nil))) | (apply Kf.mk; (focus kernel_rfl)) | (apply CA.draw; (focus rfl); (focus kernel_rfl); (focus kernel_rfl); (focus repeat' (first | apply ON.one | exact ON.done | exact ON.none | apply ON.alt)); (focus rfl)) | (apply Sx.r; (focus exact rfl); (focus first | omega | (simp; omega))) | (apply Ov.n; (focus first | omega | (simp <;> omega))) | (apply Sx.r; (focus assumption); (focus first | omega | (simp; omega))) | fail)
      exact PA.lp (i, m + 1, cur) ⟨by (repeat (first | exact trivial | refine ⟨rfl, ?_⟩)), by (repeat (first | exact Subl.nil | refine Subl.cons (by (repeat (first | exact Take.here | apply Take.there))) ?_))⟩ ⟨⟨by simp only; omega, by simp only; omega, by simp only; omega, g4, by simp only; rw [← Nat.add_assoc, ddN_eq (by omega) (by rw [ha, hb, hab])]; exact g5, by simp only; rw [show k + (m + 1) - 1 = k + m by omega]; exact h7⟩, by simp only; omega⟩
    · have hv : ¬ [a.rep, a.num, a.time, a.val] = [b.rep, b.num, b.time, b.val] := fun h9 => hab (by simp only [List.cons.injEq, and_true] at h9; exact mks_ext h9.1 h9.2.1 h9.2.2.1 h9.2.2.2)
      repeat' (first | refine Sp.h ?_ | refine Lk.r rfl ?_ | refine Rf.mk rfl ?_ | (apply Bd.t; (focus (first | assumption | omega | rfl))) | (apply Bd.f; (focus (first | assumption | omega | exact Bool.false_ne_true))) | refine OpK.r rfl ?_ | (apply TkA.r; (focus (repeat (first | exact Take.here | apply Take.there)))) | (apply Ix.q; (focus exact rfl); (focus assumption)) | (apply At.r; (focus assumption)) | refine Ch.l ⟨rfl, rfl⟩ ?_ | (apply SetAsk.r; (focus (repeat (first | exact SetAs.z | (apply SetAs.c; (focus (repeat (first | assumption | exact SetA.z | apply SetA.s)))))))) | refine Rf.mk ⟨rfl, rfl⟩ ?_ | refine Up.r rfl ?_ | (apply Il.r; (focus repeat (first | apply ILit.cons | exact ILit.nil))) | (apply Kf.mk; (focus kernel_rfl)) | (apply CA.draw; (focus rfl); (focus kernel_rfl); (focus kernel_rfl); (focus repeat' (first | apply ON.one | exact ON.done | exact ON.none | apply ON.alt)); (focus rfl)) | (apply Sx.r; (focus exact rfl); (focus first | omega | (simp; omega))) | (apply Ov.n; (focus first | omega | (simp <;> omega))) | (apply Sx.r; (focus assumption); (focus first | omega | (simp; omega))) | fail)
      have h8 : (cur.set i a).take (i + 1) = cur.take i ++ [a] := by
        rw [List.take_add_one, List.getElem?_set, if_pos rfl, if_pos (by omega), List.take_set_of_le (Nat.le_refl _)]; rfl
      refine PA.lp (i + 1, m + 1, cur.set i a) ⟨by (repeat (first | exact trivial | refine ⟨rfl, ?_⟩)), by (repeat (first | exact Subl.nil | refine Subl.cons (by (repeat (first | exact Take.here | apply Take.there))) ?_))⟩ ⟨⟨by simp only; omega, by simp only; omega, by simp only; omega, by simp only; rw [List.length_set]; exact g4, ?_, ?_⟩, by simp only; omega⟩
      · simp only
        rw [h8, g5, ← Nat.add_assoc, ddN_ne ha (fun _ => by rw [ha, hb]; exact fun e => hab (by cases e; rfl))]
      · simp only
        rw [show k + (m + 1) - 1 = k + m by omega, List.drop_set_of_lt (by omega)]; exact h7
  · have hme : k + m = l.length := by omega
    rw [hme] at g5
    (repeat' (first | (show CA _ _ (Code.region 14 _ _) _ _; apply Stopped.out) | refine Sp.h ?_ | refine Lk.r rfl ?_ | refine Rf.mk rfl ?_ | (apply Bd.f; (focus (first | assumption | omega | exact Bool.false_ne_true))) | fail)); any_goals apply Stopped.mk
    apply CA.retype (m := cur.map mkV) (g := valR)
    focus (repeat (first | exact Take.here | apply Take.there))
    focus exact mkV_map cur
    apply CA.toX 0
    focus rfl
    focus (repeat (first | exact Take.here | apply Take.there))
    intro hcap
    rw [List.length_map] at hcap
    (repeat' (first | (show CA _ _ Code.ret _ _; apply Stopped.out) | refine Sp.h ?_ | refine Lk.r rfl ?_ | refine Rf.mk rfl ?_ | (apply Om.mk; (focus first | omega | (simp <;> omega))) | refine Rf.mk ⟨rfl, rfl⟩ ?_ | refine Rf.mk ⟨rfl, rfl, rfl⟩ ?_ | (apply Jx.r; (focus exact rfl); (focus first | omega | (simp; done) | (simp; omega))) | (apply TkX.r; (focus (repeat (first | exact Take.here | apply Take.there)))) | (apply ExX.short; (focus rfl); (focus first | omega | (simp <;> omega)); (focus first | omega | (simp <;> omega))) | fail)); any_goals apply Stopped.mk
    apply CA.retype (m := dd l) (g := mkC)
    focus (repeat (first | exact Take.here | apply Take.there))
    focus (rw [dd, ← g5, ← mkV_map, List.map_take]; simp [List.take_take])
    repeat' (first | refine Sp.h ?_ | refine Lk.r rfl ?_ | (apply Nm.r; (focus repeat (first | apply LN.cons | exact LN.nil))) | fail)
    exact ⟨_, _, .one (.same (.nil (by (repeat (first | exact Subl.nil | refine Subl.cons (by (repeat (first | exact Take.here | apply Take.there))) ?_))))), _, rfl, rfl⟩
/-- Sorted, without what stands twice: strictly increasing. -/
theorem ddN_pw {α : Type} {R : α → α → Prop} {l : List α} (hs : l.Pairwise fun a b => ¬ R b a) (ht : ∀ a ∈ l, ∀ b ∈ l, a = b ∨ R a b ∨ R b a) :
    ∀ i, i ≤ l.length → (ddN l i).Pairwise R ∧ ∀ x, x ∈ ddN l i ↔ x ∈ l.take i := by
  intro i
  induction i with
  | zero => intro _; exact ⟨List.Pairwise.nil, fun x => by simp [ddN]⟩
  | succ i ih =>
    intro hi
    obtain ⟨h1, h2⟩ := ih (by omega)
    obtain ⟨x, hx⟩ := get_of (l := l) (i := i) (by omega)
    have htk : l.take (i + 1) = l.take i ++ [x] := by rw [List.take_add_one, hx]; rfl
    by_cases hc : 0 < i ∧ l[i]? = l[i - 1]?
    · rw [ddN_eq hc.1 hc.2, htk]
      refine ⟨h1, fun y => (h2 y).trans ?_⟩
      have hxm : x ∈ l.take i := List.mem_of_getElem? (i := i - 1) (by rw [List.getElem?_take, if_pos (by omega), ← hc.2, hx])
      simp only [List.mem_append, List.mem_singleton]
      exact ⟨.inl, fun h => h.elim id fun e => e ▸ hxm⟩
    · rw [ddN_ne hx (fun h0 e => hc ⟨h0, e⟩), htk]
      refine ⟨List.pairwise_append.2 ⟨h1, by simp, fun a ha b hb => ?_⟩, fun y => by simp [h2]⟩
      have hb : b = x := by simpa using hb
      subst hb
      have ha := (h2 a).1 ha
      obtain ⟨j, hj⟩ := List.getElem?_of_mem ha
      have hjl : j < i := by have := (List.getElem?_eq_some_iff.1 hj).1; simp at this; omega
      rw [List.getElem?_take, if_pos hjl] at hj
      have hle : ∀ (p q : Nat) (u v : α), p < q → l[p]? = some u → l[q]? = some v → ¬ R v u := fun p q u v hpq hu hv => by
        obtain ⟨p1, rfl⟩ := List.getElem?_eq_some_iff.1 hu
        obtain ⟨q1, rfl⟩ := List.getElem?_eq_some_iff.1 hv
        exact List.pairwise_iff_getElem.1 hs p q p1 q1 hpq
      have hab := hle j i a b hjl hj hx
      rcases ht a (List.mem_of_getElem? hj) b (List.mem_of_getElem? hx) with e | h | h
      · subst e
        obtain ⟨z, hz⟩ := get_of (l := l) (i := i - 1) (by omega)
        have h5 : a ≠ z := fun e => hc ⟨by omega, by rw [hx, hz, e]⟩
        have h3 := hle (i - 1) i z a (by omega) hz hx
        have h4 : ¬ R z a := by
          by_cases hji : j = i - 1
          · subst hji; rw [hj] at hz; exact absurd (Option.some.inj hz) h5
          · exact hle j (i - 1) a z (by omega) hj hz
        rcases ht a (List.mem_of_getElem? hx) z (List.mem_of_getElem? hz) with e | h | h
        · exact absurd e h5
        · exact absurd h h3
        · exact absurd h h4
      · exact h
      · exact absurd h hab
theorem LtK_asymm (a b : MkS) : LtK a b → ¬ LtK b a := by unfold LtK; omega
/-- The marks of some kind, in order. -/
noncomputable def canK (p : MkS → Prop) : List MkS := Classical.epsilon fun s => s.Pairwise LtK ∧ ∀ x, x ∈ s ↔ p x
theorem canK_eq {p : MkS → Prop} {s : List MkS} (h1 : s.Pairwise LtK) (h2 : ∀ x, x ∈ s ↔ p x) : canK p = s := by
  have h := Classical.epsilon_spec (p := fun s : List MkS => s.Pairwise LtK ∧ ∀ x, x ∈ s ↔ p x) ⟨s, h1, h2⟩
  exact pw_uniq LtK_asymm _ _ h.1 h1 fun x => (h.2 x).trans (h2 x).symm
noncomputable def unionF (a b : List MkS) : List MkS := canK fun x => x ∈ a ∨ x ∈ b
/-- No two different marks have one place in the order. -/
def TotK (l : List MkS) : Prop := ∀ x ∈ l, ∀ y ∈ l, x = y ∨ LtK x y ∨ LtK y x
theorem union_dd {a b s : List MkS} (ht : TotK (a ++ b)) (hp : (a ++ b).Perm s) (hs : s.Pairwise fun x y => cmpK y x < 0 → False) : unionF a b = dd s ∧ (dd s).length ≤ a.length + b.length := by
  have h1 : s.Pairwise fun x y => ¬ LtK y x := hs.imp fun h h9 => h (cmpK_neg.2 h9)
  obtain ⟨h2, h3⟩ := ddN_pw h1 (fun x hx y hy => ht x (hp.mem_iff.2 hx) y (hp.mem_iff.2 hy)) s.length (Nat.le_refl _)
  rw [List.take_length] at h3
  refine ⟨canK_eq h2 fun x => (h3 x).trans ?_, ?_⟩
  · rw [← hp.mem_iff, List.mem_append]
  · have h4 := ddN_len (l := s) s.length
    have h5 := hp.length_eq
    rw [List.length_append] at h5
    show (ddN s s.length).length ≤ _
    omega
theorem union_ex (a b : List MkS) (ht : TotK (a ++ b)) : (unionF a b).Pairwise LtK ∧ (∀ x, x ∈ unionF a b ↔ x ∈ a ∨ x ∈ b) ∧ (unionF a b).length ≤ a.length + b.length := by
  have hp : (a ++ b).Perm ((a ++ b).mergeSort fun x y => decide (¬ LtK y x)) := (List.mergeSort_perm _ _).symm
  have hs : ((a ++ b).mergeSort fun x y => decide (¬ LtK y x)).Pairwise fun x y => cmpK y x < 0 → False := by
    have := List.pairwise_mergeSort (le := fun x y : MkS => decide (¬ LtK y x)) (fun a b c h1 h2 => by simp [LtK] at *; omega) (fun a b => by simp [LtK]; omega) (a ++ b)
    exact this.imp fun h h9 => by simp at h; exact h (cmpK_neg.1 h9)
  obtain ⟨h1, h2⟩ := union_dd ht hp hs
  have h3 : _ := hs.imp (S := fun x y => ¬ LtK y x) fun h h9 => h (cmpK_neg.2 h9)
  obtain ⟨h4, h5⟩ := ddN_pw h3 (fun x hx y hy => ht x (hp.mem_iff.2 hx) y (hp.mem_iff.2 hy)) _ (Nat.le_refl _)
  rw [List.take_length] at h5
  rw [h1]
  exact ⟨h4, fun x => (h5 x).trans (by rw [← hp.mem_iff, List.mem_append]), h2⟩
theorem union_p (a b : List MkS) (ht : TotK (a ++ b)) (hl : a.length + b.length ≤ 100000) : CallP Tryz.prog 101 [mks a, mks b] (mks (unionF a b)) := by
  obtain ⟨-, -, hln⟩ := union_ex a b ht
  refine CallA.fz (T := 47) (by omega) ?_
  have hco := concat_a [a, b] (by simp; omega)
  simp only [List.flatten_cons, List.flatten_nil, List.append_nil] at hco
  refine CallA.of pg ord101 Tryz.func101 rfl Tryz.ntmps101 Tryz.results101 rfl fun h0 G0 O0 => ?_
  repeat' (first | refine Sp.h ?_ | refine Lk.r rfl ?_ | refine Rf.mk rfl ?_ | (refine All.mk ?_; intro _) | (apply Fk.r; (focus (repeat (first | exact FillA.nil | (apply FillA.agg; (focus rfl); (focus rfl); (focus (repeat (first | exact SetAs.z | (apply SetAs.c; (focus (repeat (first | assumption | exact SetA.z | apply SetA.s)))))))) | (apply FillA.one; (focus rfl); (focus infer_instance); (focus (repeat (first | assumption | exact SetA.z | apply SetA.s)))))))) | refine Rf.mk ⟨rfl, rfl, rfl⟩ ?_ | fail)
  (apply Cl.fz; (focus repeat' (first | exact FZ.nil | (apply FZ.fz; (focus (repeat (first | exact Take.here | apply Take.there))); (focus first | omega | decide | exact Nat.le_of_ble_eq_true rfl | (simp <;> omega))) | apply FZ.agg | apply FZ.same)))
  (apply Cl.use (hco); (focus repeat' (first | exact Lend.nil | (apply Lend.mp; (focus rfl)) | fail)); (focus (repeat (first | exact Takes.nil | (apply Takes.cons; (focus (repeat (first | exact Take.here | apply Take.there))))))); (focus rfl))
  rintro _ _ ⟨w, rfl, rfl⟩
  have hso := sortM_a w (a ++ b) (by simp; omega)
  repeat' (first | refine Sp.h ?_ | refine Lk.r rfl ?_ | refine Rf.mk rfl ?_ | fail)
  (apply Cl.use (hso); (focus repeat' (first | exact Lend.nil | apply Lend.keep | fail)); (focus (repeat (first | exact Takes.nil | (apply Takes.cons; (focus (repeat (first | exact Take.here | apply Take.there))))))); (focus rfl))
  rintro _ _ ⟨s, hp, hs, rfl, rfl⟩
  have hcm := compactK_a w s (by have := hp.length_eq; simp at this; omega)
  repeat' (first | refine Sp.h ?_ | refine Lk.r rfl ?_ | refine Rf.mk rfl ?_ | fail)
  (apply Cl.use (hcm); (focus repeat' (first | exact Lend.nil | apply Lend.keep | fail)); (focus (repeat (first | exact Takes.nil | (apply Takes.cons; (focus (repeat (first | exact Take.here | apply Take.there))))))); (focus rfl))
  rintro _ _ ⟨w2, rfl, rfl⟩
  rw [(union_dd ht hp hs).1]
  repeat' (first | refine Sp.h ?_ | refine Lk.r rfl ?_ | (apply Nm.r; (focus repeat (first | apply LN.cons | exact LN.nil))) | fail)
  exact ⟨_, _, .one (.same (.nil (by (repeat (first | exact Subl.nil | refine Subl.cons (by (repeat (first | exact Take.here | apply Take.there))) ?_))))), _, rfl, rfl⟩
end Go.Proofs.YtpgpdmmobblffaaGreat
namespace Go.Proofs.YtpgpdmmobblffaaGreat
open Go Go.CF
set_option maxRecDepth 20000
def fndN (l : List MkS) (r n : Int) : Option MkS := l.find? fun y => decide (y.rep = r ∧ y.num = n)
def mk0 : MkS := ⟨0, 0, 0, 0⟩
theorem idx_find {α : Type} {p : α → Bool} : ∀ l : List α, l[idxN p l]? = l.find? p
  | [] => rfl
  | a :: l => by
    by_cases ha : p a = true
    · simp [idxN, ha]
    · have ha' : p a = false := by simpa using ha
      have := idx_find (p := p) l
      simp [idxN, ha', this]
theorem fndN_has {l : List MkS} {x : MkS} : (fndN l x.rep x.num).isSome = true ↔ HasNm l x := by
  rw [fndN, List.find?_isSome]
  constructor
  · rintro ⟨y, h1, h2⟩; exact ⟨y, h1, by simpa [Nm] using h2⟩
  · rintro ⟨y, h1, h2⟩; exact ⟨y, h1, by simpa [Nm] using h2⟩
theorem fndN_some {l : List MkS} {x y : MkS} (h : fndN l x.rep x.num = some y) : y ∈ l ∧ Nm y x :=
  ⟨List.mem_of_find?_eq_some h, by simpa [Nm] using List.find?_some h⟩
abbrev sideC (k : MgS) (c : List Int) : List AV := [bl k.put, bl k.drop, mks k.marks, ints c]
theorem find1_p (x : MkS) (r n : Int) : CallP Tryz.prog 100 [mA x, .ad [it r, it n] 0] (bl (decide (x.rep = r ∧ x.num = n))) := by
  refine CallA.of pg ord100 Tryz.func100 rfl Tryz.ntmps100 Tryz.results100 rfl fun h0 G0 O0 => ?_
  repeat' (first | refine Sp.h ?_ | refine Lk.r rfl ?_ | refine Rf.mk rfl ?_ | refine OpK.r rfl ?_ | (refine All.mk ?_; intro _) | (apply TkB.r; (focus (repeat (first | exact Take.here | apply Take.there)))) | refine Ch.l ⟨rfl, rfl⟩ ?_ | (apply Nm.r; (focus repeat (first | apply LN.cons | exact LN.nil))) | (apply Il.r; (focus repeat (first | apply ILit.cons | exact ILit.nil))) | (apply Kf.mk; (focus kernel_rfl)) | (apply CA.draw; (focus rfl); (focus kernel_rfl); (focus kernel_rfl); (focus repeat' (first | apply ON.one | exact ON.done | exact ON.none | apply ON.alt)); (focus rfl)) | fail | (apply Cl.p (dot_p _); (focus repeat' (first | exact Lend.nil | apply Lend.keep | fail))))
  refine Fin.p rfl (vb (decide_eq_decide.2 ?_))
  simp
theorem findS_p (k : MgS) (c : List Int) (r n : Int) : CallP Tryz.prog 71 [.agg (sideC k c), dotC r n] (.tup [.agg (mkC ((fndN k.marks r n).getD mk0)), bl (fndN k.marks r n).isSome]) := by
  have hix := indexK_p (fun x => find1_p x r n) rfl k.marks
  have hfd := idx_find (p := fun y : MkS => decide (y.rep = r ∧ y.num = n)) k.marks
  refine CallA.of pg ord71 Tryz.func71 rfl Tryz.ntmps71 Tryz.results71 rfl fun h0 G0 O0 => ?_
  (repeat' (first | (show CA _ _ (Code.region 1 _ _) _ _; apply Stopped.out) | refine Sp.h ?_ | refine Lk.r rfl ?_ | refine Rf.mk rfl ?_ | (refine All.mk ?_; intro _) | (apply Nm.r; (focus repeat (first | apply LN.cons | exact LN.nil))) | fail)); any_goals apply Stopped.mk
  apply CA.freezeB 3
  focus rfl
  focus (repeat (first | exact Take.here | apply Take.there))
  by_cases hn : idxN (fun y : MkS => decide (y.rep = r ∧ y.num = n)) k.marks < k.marks.length
  · have hI : idxI (fun y : MkS => decide (y.rep = r ∧ y.num = n)) k.marks = (idxN (fun y : MkS => decide (y.rep = r ∧ y.num = n)) k.marks : Nat) := if_pos hn
    obtain ⟨x, hx⟩ := get_of hn
    have hf : fndN k.marks r n = some x := by rw [fndN, ← hfd, hx]
    rw [hI] at hix
    rw [hf]
    repeat' (first | refine Sp.h ?_ | refine Lk.r rfl ?_ | refine Rf.mk rfl ?_ | (apply Bd.f; (focus (first | assumption | omega | exact Bool.false_ne_true))) | (apply TkB.r; (focus (repeat (first | exact Take.here | apply Take.there)))) | (apply Ix.q; (focus exact rfl); (focus assumption)) | refine Ch.l ⟨rfl, rfl⟩ ?_ | (apply SetAsk.r; (focus (repeat (first | exact SetAs.z | (apply SetAs.c; (focus (repeat (first | assumption | exact SetA.z | apply SetA.s)))))))) | (apply Nm.r; (focus repeat (first | apply LN.cons | exact LN.nil))) | fail | (apply Cl.p (hix); (focus repeat' (first | exact Lend.nil | apply Lend.keep | fail))))
    exact ⟨_, _, .tup (.same (.same (.nil (by (repeat (first | exact Subl.nil | refine Subl.cons (by (repeat (first | exact Take.here | apply Take.there))) ?_)))))), rfl, rfl⟩
  · have hI : idxI (fun y : MkS => decide (y.rep = r ∧ y.num = n)) k.marks = -1 := if_neg hn
    have hf : fndN k.marks r n = none := by rw [fndN, ← hfd, List.getElem?_eq_none (by omega)]
    rw [hI] at hix
    rw [hf]
    repeat' (first | refine Sp.h ?_ | refine Lk.r rfl ?_ | refine Rf.mk rfl ?_ | (apply Bd.t; (focus (first | assumption | omega | rfl))) | (apply TkB.r; (focus (repeat (first | exact Take.here | apply Take.there)))) | (apply SetAsk.r; (focus (repeat (first | exact SetAs.z | (apply SetAs.c; (focus (repeat (first | assumption | exact SetA.z | apply SetA.s)))))))) | (apply Fk.r; (focus (repeat (first | exact FillA.nil | (apply FillA.agg; (focus rfl); (focus rfl); (focus (repeat (first | exact SetAs.z | (apply SetAs.c; (focus (repeat (first | assumption | exact SetA.z | apply SetA.s)))))))) | (apply FillA.one; (focus rfl); (focus infer_instance); (focus (repeat (first | assumption | exact SetA.z | apply SetA.s)))))))) | (apply Nm.r; (focus repeat (first | apply LN.cons | exact LN.nil))) | fail | (apply Cl.p (hix); (focus repeat' (first | exact Lend.nil | apply Lend.keep | fail))))
    exact ⟨_, _, .tup (.same (.same (.nil (by (repeat (first | exact Subl.nil | refine Subl.cons (by (repeat (first | exact Take.here | apply Take.there))) ?_)))))), rfl, rfl⟩
/-- The marks of l that stand in l2, too, or that c has not seen. -/
noncomputable def ownF (l l2 : List MkS) (c : List Int) : List MkS := l.filter fun x => decide (HasNm l2 x ∨ ¬ HasC c x.rep x.num)
theorem ownF_len (l l2 : List MkS) (c : List Int) : (ownF l l2 c).length ≤ l.length := List.length_filter_le _ _
theorem ownF_mem {l l2 : List MkS} {c : List Int} {x : MkS} : x ∈ ownF l l2 c ↔ x ∈ l ∧ (HasNm l2 x ∨ ¬ HasC c x.rep x.num) := by simp [ownF, List.mem_filter]
theorem ownF_succ {l l2 : List MkS} {c : List Int} {i : Nat} {x : MkS} (hx : l[i]? = some x) : ownF (l.take (i + 1)) l2 c = ownF (l.take i) l2 c ++ if HasNm l2 x ∨ ¬ HasC c x.rep x.num then [x] else [] := by
  rw [List.take_add_one, hx, ownF, List.filter_append]
  by_cases h : HasNm l2 x ∨ ¬ HasC c x.rep x.num
  · rw [if_pos h]; simp [ownF, h]
  · rw [if_neg h]; simp [ownF, h]
set_option maxHeartbeats 2000000 in
theorem own_p (k k2 : MgS) (c c2 : List Int) (hl : k.marks.length ≤ 100000) : CallP Tryz.prog 102 [.agg (sideC k c), .agg (sideC k2 c2)] (mks (ownF k.marks k2.marks c2)) := by
  have hln := ownF_len k.marks k2.marks c2
  refine CallA.fz (T := 47) (by omega) ?_
  refine CallA.of pg ord102 Tryz.func102 rfl Tryz.ntmps102 Tryz.results102 rfl fun h0 G0 O0 => ?_
  repeat' (first | refine Sp.h ?_ | refine Lk.r rfl ?_ | refine Rf.mk rfl ?_ | (refine Im.mk ?_; intro _) | (refine All.mk ?_; intro _) | (apply TkB.r; (focus (repeat (first | exact Take.here | apply Take.there)))) | fail)
  rename_i b2 b3 _
  refine CA.nilOwn 5 47 4 mkC rfl fun v => ?_
  refine CA.loop (fun x : Nat × Value => ⟨[(3, pm b3), (5, .ow x.2), (12, mks k.marks), (13, it (k.marks.length : Nat)), (14, it x.1)], [blkR b3 136 (sideC k2 c2), arrR x.2 47 4 (ownF (k.marks.take x.1) k2.marks c2) mkC]⟩) (fun x => x.1 ≤ k.marks.length) (fun x => k.marks.length - x.1) (0, v) ⟨by (repeat (first | exact trivial | refine ⟨rfl, ?_⟩)), by (repeat (first | exact Subl.nil | refine Subl.cons (by (repeat (first | exact Take.here | apply Take.there))) ?_))⟩ (Nat.zero_le _) ?_
  rintro ⟨i, w⟩ hi
  simp only at hi
  simp only
  by_cases hin : i < k.marks.length
  · obtain ⟨x, hx⟩ := get_of hin
    have hsu := ownF_succ (l2 := k2.marks) (c := c2) hx
    have hll := ownF_len (k.marks.take i) k2.marks c2
    rw [List.length_take] at hll
    have hfs := findS_p k2 c2 x.rep x.num
    have hhas := fndN_has (l := k2.marks) (x := x)
    by_cases hs : (fndN k2.marks x.rep x.num).isSome = true
    · rw [if_pos (.inl (hhas.1 hs))] at hsu
      rw [hs] at hfs
      repeat' (first | refine Sp.h ?_ | refine Lk.r rfl ?_ | refine Rf.mk rfl ?_ | (apply Bd.t; (focus (first | assumption | omega | rfl))) | refine OpK.r rfl ?_ | (apply Om.mk; (focus first | omega | (simp <;> omega))) | (refine All.mk ?_; intro _) | (apply TkA.r; (focus (repeat (first | exact Take.here | apply Take.there)))) | (apply TkB.r; (focus (repeat (first | exact Take.here | apply Take.there)))) | (apply Ix.q; (focus exact rfl); (focus assumption)) | refine Ce.r ?_ | refine Ch.l ⟨rfl, rfl⟩ ?_ | (apply SetAsk.r; (focus (repeat (first | exact SetAs.z | (apply SetAs.c; (focus (repeat (first | assumption | exact SetA.z | apply SetA.s)))))))) | (apply Fk.r; (focus (repeat (first | exact FillA.nil | (apply FillA.agg; (focus rfl); (focus rfl); (focus (repeat (first | exact SetAs.z | (apply SetAs.c; (focus (repeat (first | assumption | exact SetA.z | apply SetA.s)))))))) | (apply FillA.one; (focus rfl); (focus infer_instance); (focus (repeat (first | assumption | exact SetA.z | apply SetA.s)))))))) | (apply Nm.r; (focus repeat (first | apply LN.cons | exact LN.nil))) | refine Rf.mk ⟨rfl, rfl⟩ ?_ | refine Rf.mk ⟨rfl, rfl, rfl⟩ ?_ | (apply Mp.lit; (focus repeat (first | exact MpL.nil | (apply MpL.cons; (focus rfl)) | (apply MpL.inv; (focus repeat (first | apply LN.cons | exact LN.nil)); (focus infer_instance))))) | (apply CA.draw; (focus rfl); (focus kernel_rfl); (focus kernel_rfl); (focus repeat' (first | apply ON.one | exact ON.done | exact ON.none | apply ON.alt)); (focus rfl)) | exact trivial | apply RA'.both | (apply Ov.n; (focus first | omega | (simp <;> omega))) | fail | (apply Cl.p (dot_p x); (focus repeat' (first | exact Lend.nil | apply Lend.keep | fail))) | (apply Cl.p (hfs); (focus repeat' (first | exact Lend.nil | apply Lend.keep | fail))))
      all_goals rw [← hsu]
      all_goals exact PA.lp (i + 1, _) ⟨by (repeat (first | exact trivial | refine ⟨rfl, ?_⟩)), by (repeat (first | exact Subl.nil | refine Subl.cons (by (repeat (first | exact Take.here | apply Take.there))) ?_))⟩ ⟨hin, by simp only; omega⟩
    · have hs' : (fndN k2.marks x.rep x.num).isSome = false := by simpa using hs
      have hno : ¬ HasNm k2.marks x := fun h => hs (hhas.2 h)
      rw [hs'] at hfs
      by_cases hh : HasC c2 x.rep x.num
      · rw [if_neg (fun h => h.elim hno (fun h => h hh)), List.append_nil] at hsu
        repeat' (first | refine Sp.h ?_ | refine Lk.r rfl ?_ | refine Rf.mk rfl ?_ | (apply Bd.t; (focus (first | assumption | omega | rfl))) | refine OpK.r rfl ?_ | (refine All.mk ?_; intro _) | (apply TkB.r; (focus (repeat (first | exact Take.here | apply Take.there)))) | (apply Ix.q; (focus exact rfl); (focus assumption)) | refine Ch.l ⟨rfl, rfl⟩ ?_ | (apply SetAsk.r; (focus (repeat (first | exact SetAs.z | (apply SetAs.c; (focus (repeat (first | assumption | exact SetA.z | apply SetA.s)))))))) | (apply Nm.r; (focus repeat (first | apply LN.cons | exact LN.nil))) | (apply CA.draw; (focus rfl); (focus kernel_rfl); (focus kernel_rfl); (focus repeat' (first | apply ON.one | exact ON.done | exact ON.none | apply ON.alt)); (focus rfl)) | exact trivial | apply RA'.both | (apply Ov.n; (focus first | omega | (simp <;> omega))) | fail | (apply Cl.p (dot_p x); (focus repeat' (first | exact Lend.nil | apply Lend.keep | fail))) | (apply Cl.p (hfs); (focus repeat' (first | exact Lend.nil | apply Lend.keep | fail))) | (apply Cl.p (hasC_p _ _ _); (focus repeat' (first | exact Lend.nil | apply Lend.keep | fail))))
        all_goals rw [← hsu]
        all_goals exact PA.lp (i + 1, w) ⟨by (repeat (first | exact trivial | refine ⟨rfl, ?_⟩)), by (repeat (first | exact Subl.nil | refine Subl.cons (by (repeat (first | exact Take.here | apply Take.there))) ?_))⟩ ⟨hin, by simp only; omega⟩
      · rw [if_pos (.inr hh)] at hsu
        repeat' (first | refine Sp.h ?_ | refine Lk.r rfl ?_ | refine Rf.mk rfl ?_ | (apply Bd.t; (focus (first | assumption | omega | rfl))) | (apply Bd.f; (focus (first | assumption | omega | exact Bool.false_ne_true))) | refine OpK.r rfl ?_ | (apply Om.mk; (focus first | omega | (simp <;> omega))) | (refine All.mk ?_; intro _) | (apply TkA.r; (focus (repeat (first | exact Take.here | apply Take.there)))) | (apply TkB.r; (focus (repeat (first | exact Take.here | apply Take.there)))) | (apply Ix.q; (focus exact rfl); (focus assumption)) | refine Ce.r ?_ | refine Ch.l ⟨rfl, rfl⟩ ?_ | (apply SetAsk.r; (focus (repeat (first | exact SetAs.z | (apply SetAs.c; (focus (repeat (first | assumption | exact SetA.z | apply SetA.s)))))))) | (apply Fk.r; (focus (repeat (first | exact FillA.nil | (apply FillA.agg; (focus rfl); (focus rfl); (focus (repeat (first | exact SetAs.z | (apply SetAs.c; (focus (repeat (first | assumption | exact SetA.z | apply SetA.s)))))))) | (apply FillA.one; (focus rfl); (focus infer_instance); (focus (repeat (first | assumption | exact SetA.z | apply SetA.s)))))))) | (apply Nm.r; (focus repeat (first | apply LN.cons | exact LN.nil))) | refine Rf.mk ⟨rfl, rfl⟩ ?_ | refine Rf.mk ⟨rfl, rfl, rfl⟩ ?_ | (apply Mp.lit; (focus repeat (first | exact MpL.nil | (apply MpL.cons; (focus rfl)) | (apply MpL.inv; (focus repeat (first | apply LN.cons | exact LN.nil)); (focus infer_instance))))) | (apply CA.draw; (focus rfl); (focus kernel_rfl); (focus kernel_rfl); (focus repeat' (first | apply ON.one | exact ON.done | exact ON.none | apply ON.alt)); (focus rfl)) | exact trivial | apply RA'.both | (apply Ov.n; (focus first | omega | (simp <;> omega))) | fail | (apply Cl.p (dot_p x); (focus repeat' (first | exact Lend.nil | apply Lend.keep | fail))) | (apply Cl.p (hfs); (focus repeat' (first | exact Lend.nil | apply Lend.keep | fail))) | (apply Cl.p (hasC_p _ _ _); (focus repeat' (first | exact Lend.nil | apply Lend.keep | fail))))
        all_goals rw [← hsu]
        all_goals exact PA.lp (i + 1, _) ⟨by (repeat (first | exact trivial | refine ⟨rfl, ?_⟩)), by (repeat (first | exact Subl.nil | refine Subl.cons (by (repeat (first | exact Take.here | apply Take.there))) ?_))⟩ ⟨hin, by simp only; omega⟩
  · have hie : i = k.marks.length := by omega
    subst hie
    rw [List.take_length]
    repeat' (first | refine Sp.h ?_ | refine Lk.r rfl ?_ | refine Rf.mk rfl ?_ | (apply Bd.f; (focus (first | assumption | omega | exact Bool.false_ne_true))) | (apply Nm.r; (focus repeat (first | apply LN.cons | exact LN.nil))) | fail)
    exact ⟨_, _, .one (.same (.nil (by (repeat (first | exact Subl.nil | refine Subl.cons (by (repeat (first | exact Take.here | apply Take.there))) ?_))))), _, rfl, rfl⟩
end Go.Proofs.YtpgpdmmobblffaaGreat
namespace Go.Proofs.YtpgpdmmobblffaaGreat
open Go Go.CF
set_option maxRecDepth 20000
noncomputable def jnG (t : TblS) (a : MgS) (ac : List Int) (b : MgS) (bc : List Int) : MgS :=
  if t.kind = 4 then ⟨false, false, (unionF a.marks b.marks).drop ((unionF a.marks b.marks).length - 1)⟩
  else if t.kind = 3 then ⟨a.put || b.put, a.drop && b.drop, unionF (ownF a.marks b.marks bc) (ownF b.marks a.marks ac)⟩
  else ⟨a.put && b.put, false, unionF (ownF a.marks b.marks bc) (ownF b.marks a.marks ac)⟩
theorem totK_own {a b : List MkS} (ht : TotK (a ++ b)) (c c2 : List Int) : TotK (ownF a b c ++ ownF b a c2) := by
  intro x hx y hy
  have key : ∀ z, z ∈ ownF a b c ++ ownF b a c2 → z ∈ a ++ b := fun z hz => by
    rcases List.mem_append.1 hz with h | h
    · exact List.mem_append.2 (.inl (ownF_mem.1 h).1)
    · exact List.mem_append.2 (.inr (ownF_mem.1 h).1)
  exact ht x (key x hx) y (key y hy)
set_option maxHeartbeats 2000000 in
theorem join_p (t : TblS) (a b : MgS) (ac bc : List Int) (ht : TotK (a.marks ++ b.marks)) (ha : a.marks.length ≤ 10000) (hb : b.marks.length ≤ 10000) :
    CallP Tryz.prog 72 [.agg (tblC t), .agg (sideC a ac), .agg (sideC b bc)] (.agg (mgC (jnG t a ac b bc))) := by
  have hu := union_p a.marks b.marks ht (by omega)
  have hla := ownF_len a.marks b.marks bc
  have hlb := ownF_len b.marks a.marks ac
  have h1 := own_p a b ac bc (by omega)
  have h2 := own_p b a bc ac (by omega)
  have h3 := union_p (ownF a.marks b.marks bc) (ownF b.marks a.marks ac) (totK_own ht _ _) (by omega)
  by_cases k4 : t.kind = 4
  · have he : jnG t a ac b bc = ⟨false, false, (unionF a.marks b.marks).drop ((unionF a.marks b.marks).length - 1)⟩ := if_pos k4
    rw [he]
    have hm : max 0 (((unionF a.marks b.marks).length : Nat) - 1 : Int) = (((unionF a.marks b.marks).length - 1 : Nat) : Int) := by omega
    refine CallA.of pg ord72 Tryz.func72 rfl Tryz.ntmps72 Tryz.results72 rfl fun h0 G0 O0 => ?_
    have hd : ((unionF a.marks b.marks).drop ((unionF a.marks b.marks).length - 1)).take ((unionF a.marks b.marks).length - ((unionF a.marks b.marks).length - 1)) = (unionF a.marks b.marks).drop ((unionF a.marks b.marks).length - 1) := List.take_of_length_le (by simp)
    repeat' (first | refine Sp.h ?_ | refine Lk.r rfl ?_ | refine Rf.mk rfl ?_ | (apply Bd.t; (focus (first | assumption | omega | rfl))) | (refine Im.mk ?_; intro _) | (refine All.mk ?_; intro _) | (apply TkB.r; (focus (repeat (first | exact Take.here | apply Take.there)))) | (apply Nm.r; (focus repeat (first | apply LN.cons | exact LN.nil))) | (apply Ov.n; (focus first | omega | (simp <;> omega))) | fail | (apply Cl.p (hu); (focus repeat' (first | exact Lend.nil | apply Lend.keep | fail))))
    refine Jx.r hm (by omega) ?_
    rw [hd]
    repeat' (first | refine Sp.h ?_ | refine Lk.r rfl ?_ | refine Rf.mk rfl ?_ | (apply TkB.r; (focus (repeat (first | exact Take.here | apply Take.there)))) | (apply SetAsk.r; (focus (repeat (first | exact SetAs.z | (apply SetAs.c; (focus (repeat (first | assumption | exact SetA.z | apply SetA.s)))))))) | (apply Fk.r; (focus (repeat (first | exact FillA.nil | (apply FillA.agg; (focus rfl); (focus rfl); (focus (repeat (first | exact SetAs.z | (apply SetAs.c; (focus (repeat (first | assumption | exact SetA.z | apply SetA.s)))))))) | (apply FillA.one; (focus rfl); (focus infer_instance); (focus (repeat (first | assumption | exact SetA.z | apply SetA.s)))))))) | (apply Nm.r; (focus repeat (first | apply LN.cons | exact LN.nil))) | fail)
    exact ⟨_, _, .one (.same (.nil (by (repeat (first | exact Subl.nil | refine Subl.cons (by (repeat (first | exact Take.here | apply Take.there))) ?_))))), rfl, rfl⟩
  by_cases k3 : t.kind = 3
  · have he : jnG t a ac b bc = ⟨a.put || b.put, a.drop && b.drop, unionF (ownF a.marks b.marks bc) (ownF b.marks a.marks ac)⟩ := by rw [jnG, if_neg k4, if_pos k3]
    rw [he]
    obtain ⟨put, drop, l⟩ := a
    refine CallA.of pg ord72 Tryz.func72 rfl Tryz.ntmps72 Tryz.results72 rfl fun h0 G0 O0 => ?_
    cases put <;> cases drop
    all_goals repeat' (first | refine Sp.h ?_ | refine Lk.r rfl ?_ | refine Rf.mk rfl ?_ | (apply Bd.t; (focus (first | assumption | omega | rfl))) | (apply Bd.f; (focus (first | assumption | omega | exact Bool.false_ne_true))) | refine OpK.r rfl ?_ | (refine All.mk ?_; intro _) | (apply TkB.r; (focus (repeat (first | exact Take.here | apply Take.there)))) | refine Ch.l ⟨rfl, rfl⟩ ?_ | (apply SetAsk.r; (focus (repeat (first | exact SetAs.z | (apply SetAs.c; (focus (repeat (first | assumption | exact SetA.z | apply SetA.s)))))))) | (apply Fk.r; (focus (repeat (first | exact FillA.nil | (apply FillA.agg; (focus rfl); (focus rfl); (focus (repeat (first | exact SetAs.z | (apply SetAs.c; (focus (repeat (first | assumption | exact SetA.z | apply SetA.s)))))))) | (apply FillA.one; (focus rfl); (focus infer_instance); (focus (repeat (first | assumption | exact SetA.z | apply SetA.s)))))))) | (apply Nm.r; (focus repeat (first | apply LN.cons | exact LN.nil))) | (apply CA.draw; (focus rfl); (focus kernel_rfl); (focus kernel_rfl); (focus repeat' (first | apply ON.one | exact ON.done | exact ON.none | apply ON.alt)); (focus rfl)) | fail | (apply Cl.p (h1); (focus ((repeat' (first | exact Lend.nil | apply Lend.keep | apply Lend.agg | fail)); done))) | (apply Cl.p (h2); (focus ((repeat' (first | exact Lend.nil | apply Lend.keep | fail)); done))) | (apply Cl.p (h3); (focus ((repeat' (first | exact Lend.nil | apply Lend.keep | fail)); done))))
    all_goals exact ⟨_, _, .one (.same (.nil (by (repeat (first | exact Subl.nil | refine Subl.cons (by (repeat (first | exact Take.here | apply Take.there))) ?_))))), rfl, rfl⟩
  · have he : jnG t a ac b bc = ⟨a.put && b.put, false, unionF (ownF a.marks b.marks bc) (ownF b.marks a.marks ac)⟩ := by rw [jnG, if_neg k4, if_neg k3]
    rw [he]
    obtain ⟨put, drop, l⟩ := a
    refine CallA.of pg ord72 Tryz.func72 rfl Tryz.ntmps72 Tryz.results72 rfl fun h0 G0 O0 => ?_
    cases put
    all_goals repeat' (first | refine Sp.h ?_ | refine Lk.r rfl ?_ | refine Rf.mk rfl ?_ | (apply Bd.f; (focus (first | assumption | omega | exact Bool.false_ne_true))) | refine OpK.r rfl ?_ | (refine All.mk ?_; intro _) | (apply TkB.r; (focus (repeat (first | exact Take.here | apply Take.there)))) | refine Ch.l ⟨rfl, rfl⟩ ?_ | (apply SetAsk.r; (focus (repeat (first | exact SetAs.z | (apply SetAs.c; (focus (repeat (first | assumption | exact SetA.z | apply SetA.s)))))))) | (apply Fk.r; (focus (repeat (first | exact FillA.nil | (apply FillA.agg; (focus rfl); (focus rfl); (focus (repeat (first | exact SetAs.z | (apply SetAs.c; (focus (repeat (first | assumption | exact SetA.z | apply SetA.s)))))))) | (apply FillA.one; (focus rfl); (focus infer_instance); (focus (repeat (first | assumption | exact SetA.z | apply SetA.s)))))))) | (apply Nm.r; (focus repeat (first | apply LN.cons | exact LN.nil))) | (apply CA.draw; (focus rfl); (focus kernel_rfl); (focus kernel_rfl); (focus repeat' (first | apply ON.one | exact ON.done | exact ON.none | apply ON.alt)); (focus rfl)) | fail | (apply Cl.p (h1); (focus ((repeat' (first | exact Lend.nil | apply Lend.keep | apply Lend.agg | fail)); done))) | (apply Cl.p (h2); (focus ((repeat' (first | exact Lend.nil | apply Lend.keep | fail)); done))) | (apply Cl.p (h3); (focus ((repeat' (first | exact Lend.nil | apply Lend.keep | fail)); done))))
    all_goals exact ⟨_, _, .one (.same (.nil (by (repeat (first | exact Subl.nil | refine Subl.cons (by (repeat (first | exact Take.here | apply Take.there))) ?_))))), rfl, rfl⟩
end Go.Proofs.YtpgpdmmobblffaaGreat
namespace Go.Proofs.YtpgpdmmobblffaaGreat
open Go Go.CF
set_option maxRecDepth 20000
set_option maxHeartbeats 2000000 in
theorem find34_p (l : List MkS) (x : MkS) : CallP Tryz.prog 103 [mks l, mA x] (.tup [.agg (mkC ((fndN l x.rep x.num).getD mk0)), bl (fndN l x.rep x.num).isSome]) := by
  refine CallA.of pg ord103 Tryz.func103 rfl Tryz.ntmps103 Tryz.results103 rfl fun h0 G0 O0 => ?_
  repeat' (first | refine Sp.h ?_ | refine Lk.r rfl ?_ | refine Rf.mk rfl ?_ | (refine All.mk ?_; intro _) | (apply Nm.r; (focus repeat (first | apply LN.cons | exact LN.nil))) | fail)
  rename_i b3 b4
  refine CA.loop (fun i : Nat => ⟨[(0, mks l), (3, pm b3), (4, pm b4), (6, it i)], [blkR b3 47 (mkC x), blkR b4 47 (mkC mk0)]⟩) (fun i => i ≤ l.length ∧ ∀ y ∈ l.take i, ¬ (y.rep = x.rep ∧ y.num = x.num)) (fun i => l.length - i) 0 ⟨by (repeat (first | exact trivial | refine ⟨rfl, ?_⟩)), by (repeat (first | exact Subl.nil | refine Subl.cons (by (repeat (first | exact Take.here | apply Take.there))) ?_))⟩ ⟨Nat.zero_le _, by simp⟩ ?_
  rintro i ⟨hi, ha⟩
  by_cases hin : i < l.length
  · obtain ⟨y, hy⟩ := get_of hin
    by_cases hn : y.rep = x.rep ∧ y.num = x.num
    · have hf : fndN l x.rep x.num = some y := by
        rw [fndN, List.find?_eq_some_iff_getElem]
        obtain ⟨h1, h2⟩ := List.getElem?_eq_some_iff.1 hy
        refine ⟨by simpa using hn, i, h1, h2, fun j hj => ?_⟩
        have := ha l[j] (List.mem_of_getElem? (i := j) (by rw [List.getElem?_take, if_pos hj, List.getElem?_eq_getElem (by omega)]))
        rw [Bool.not_eq_true', decide_eq_false_iff_not]; exact this
      obtain ⟨hn1, hn2⟩ := hn
      rw [hf]
      repeat' (first | refine Sp.h ?_ | refine Lk.r rfl ?_ | refine Rf.mk rfl ?_ | (apply Bd.t; (focus (first | assumption | omega | rfl))) | refine OpK.r rfl ?_ | (refine Im.mk ?_; intro _) | (apply TkB.r; (focus (repeat (first | exact Take.here | apply Take.there)))) | (apply Ix.q; (focus exact rfl); (focus assumption)) | refine Ch.l ⟨rfl, rfl⟩ ?_ | (apply SetAsk.r; (focus (repeat (first | exact SetAs.z | (apply SetAs.c; (focus (repeat (first | assumption | exact SetA.z | apply SetA.s)))))))) | (apply Nm.r; (focus repeat (first | apply LN.cons | exact LN.nil))) | (apply CA.draw; (focus rfl); (focus kernel_rfl); (focus kernel_rfl); (focus repeat' (first | apply ON.one | exact ON.done | exact ON.none | apply ON.alt)); (focus rfl)) | fail)
      all_goals exact ⟨_, _, .tup (.same (.same (.nil (by (repeat (first | exact Subl.nil | refine Subl.cons (by (repeat (first | exact Take.here | apply Take.there))) ?_)))))), rfl, rfl⟩
    · by_cases h1 : y.rep = x.rep
      · have h2 : y.num ≠ x.num := fun h => hn ⟨h1, h⟩
        repeat' (first | refine Sp.h ?_ | refine Lk.r rfl ?_ | refine Rf.mk rfl ?_ | (apply Bd.t; (focus (first | assumption | omega | rfl))) | (apply Bd.f; (focus (first | assumption | omega | exact Bool.false_ne_true))) | refine OpK.r rfl ?_ | (refine Im.mk ?_; intro _) | (apply TkB.r; (focus (repeat (first | exact Take.here | apply Take.there)))) | (apply Ix.q; (focus exact rfl); (focus assumption)) | (apply CA.draw; (focus rfl); (focus kernel_rfl); (focus kernel_rfl); (focus repeat' (first | apply ON.one | exact ON.done | exact ON.none | apply ON.alt)); (focus rfl)) | (apply Ov.n; (focus first | omega | (simp <;> omega))) | fail)
        all_goals exact PA.lp (i + 1) ⟨by (repeat (first | exact trivial | refine ⟨rfl, ?_⟩)), by (repeat (first | exact Subl.nil | refine Subl.cons (by (repeat (first | exact Take.here | apply Take.there))) ?_))⟩ ⟨⟨hin, all_succ hy ha hn⟩, by omega⟩
      · repeat' (first | refine Sp.h ?_ | refine Lk.r rfl ?_ | refine Rf.mk rfl ?_ | (apply Bd.t; (focus (first | assumption | omega | rfl))) | (apply Bd.f; (focus (first | assumption | omega | exact Bool.false_ne_true))) | refine OpK.r rfl ?_ | (refine Im.mk ?_; intro _) | (apply TkB.r; (focus (repeat (first | exact Take.here | apply Take.there)))) | (apply Ix.q; (focus exact rfl); (focus assumption)) | (apply CA.draw; (focus rfl); (focus kernel_rfl); (focus kernel_rfl); (focus repeat' (first | apply ON.one | exact ON.done | exact ON.none | apply ON.alt)); (focus rfl)) | (apply Ov.n; (focus first | omega | (simp <;> omega))) | fail)
        all_goals exact PA.lp (i + 1) ⟨by (repeat (first | exact trivial | refine ⟨rfl, ?_⟩)), by (repeat (first | exact Subl.nil | refine Subl.cons (by (repeat (first | exact Take.here | apply Take.there))) ?_))⟩ ⟨⟨hin, all_succ hy ha hn⟩, by omega⟩
  · have hie : i = l.length := by omega
    subst hie
    rw [List.take_length] at ha
    have hf : fndN l x.rep x.num = none := by
      rw [fndN, List.find?_eq_none]
      intro y hy
      simpa using ha y hy
    rw [hf]
    repeat' (first | refine Sp.h ?_ | refine Lk.r rfl ?_ | refine Rf.mk rfl ?_ | (apply Bd.f; (focus (first | assumption | omega | exact Bool.false_ne_true))) | (refine Im.mk ?_; intro _) | (apply TkB.r; (focus (repeat (first | exact Take.here | apply Take.there)))) | (apply SetAsk.r; (focus (repeat (first | exact SetAs.z | (apply SetAs.c; (focus (repeat (first | assumption | exact SetA.z | apply SetA.s)))))))) | (apply Fk.r; (focus (repeat (first | exact FillA.nil | (apply FillA.agg; (focus rfl); (focus rfl); (focus (repeat (first | exact SetAs.z | (apply SetAs.c; (focus (repeat (first | assumption | exact SetA.z | apply SetA.s)))))))) | (apply FillA.one; (focus rfl); (focus infer_instance); (focus (repeat (first | assumption | exact SetA.z | apply SetA.s)))))))) | (apply Nm.r; (focus repeat (first | apply LN.cons | exact LN.nil))) | fail)
    exact ⟨_, _, .tup (.same (.same (.nil (by (repeat (first | exact Subl.nil | refine Subl.cons (by (repeat (first | exact Take.here | apply Take.there))) ?_)))))), rfl, rfl⟩
/-- A mark goes ahead of the first that is greater. -/
noncomputable def addS (x : MkS) (p : List MkS × Bool) (y : MkS) : List MkS × Bool := if p.2 = false ∧ LtK x y then (p.1 ++ [x] ++ [y], true) else (p.1 ++ [y], p.2)
noncomputable def addP (l : List MkS) (x : MkS) : List MkS × Bool := l.foldl (addS x) ([], false)
noncomputable def addL (l : List MkS) (x : MkS) : List MkS := if (addP l x).2 = true then (addP l x).1 else (addP l x).1 ++ [x]
theorem addP_succ {l : List MkS} {x y : MkS} {i : Nat} (hy : l[i]? = some y) : addP (l.take (i + 1)) x = addS x (addP (l.take i) x) y := by
  rw [List.take_add_one, hy, addP, List.foldl_append]; rfl
theorem addP_app (l : List MkS) (x y : MkS) : addP (l ++ [y]) x = addS x (addP l x) y := by rw [addP, List.foldl_append]; rfl
theorem addP_len (x : MkS) (l : List MkS) : (addP l x).1.length ≤ l.length + 1 ∧ ((addP l x).2 = false → (addP l x).1.length ≤ l.length) := by
  have key : ∀ l : List MkS, (addP l.reverse x).1.length ≤ l.length + 1 ∧ ((addP l.reverse x).2 = false → (addP l.reverse x).1.length ≤ l.length) := by
    intro l
    induction l with
    | nil => simp [addP]
    | cons y l ih =>
      rw [List.reverse_cons, addP_app, addS]
      split
      · rename_i h
        have := ih.2 h.1
        simp; omega
      · have := ih.1
        refine ⟨by simp; omega, fun h => ?_⟩
        have := ih.2 h
        simp; omega
  have := key l.reverse
  simpa using this
theorem addL_len (l : List MkS) (x : MkS) : (addL l x).length ≤ l.length + 1 := by
  have := addP_len x l
  unfold addL
  split
  · exact this.1
  · rename_i h
    have := this.2 (by simpa using h)
    simp; omega
theorem addL_sk {l : List MkS} {x : MkS} (hs : l.Pairwise LtK) (hn : ¬ HasNm l x) : (addL l x).Pairwise LtK ∧ ∀ y, y ∈ addL l x ↔ y ∈ l ∨ y = x := by
  have ht : ∀ y ∈ l, LtK x y ∨ LtK y x := fun y hy => by
    have h : ¬ Nm y x := fun h => hn ⟨y, hy, h⟩
    unfold Nm at h; unfold LtK; omega
  have key : ∀ i, i ≤ l.length → ((addP (l.take i) x).2 = false ∧ (addP (l.take i) x).1 = l.take i ∧ (∀ y ∈ l.take i, ¬ LtK x y) ∨
      (addP (l.take i) x).2 = true ∧ (addP (l.take i) x).1.Pairwise LtK ∧ (∀ y, y ∈ (addP (l.take i) x).1 ↔ y ∈ l.take i ∨ y = x) ∧ ∃ y ∈ l.take i, LtK x y) := by
    intro i
    induction i with
    | zero => intro _; exact .inl ⟨rfl, rfl, by simp⟩
    | succ i ih =>
      intro hi
      obtain ⟨y, hy⟩ := get_of (l := l) (i := i) (by omega)
      have htk : l.take (i + 1) = l.take i ++ [y] := by rw [List.take_add_one, hy]; rfl
      have hlt : ∀ z ∈ l.take i, LtK z y := fun z hz => by
        obtain ⟨j, hj⟩ := List.getElem?_of_mem hz
        have hjl : j < i := by have := (List.getElem?_eq_some_iff.1 hj).1; simp at this; omega
        rw [List.getElem?_take, if_pos hjl] at hj
        obtain ⟨p1, rfl⟩ := List.getElem?_eq_some_iff.1 hj
        obtain ⟨q1, rfl⟩ := List.getElem?_eq_some_iff.1 hy
        exact List.pairwise_iff_getElem.1 hs j i p1 q1 hjl
      rw [addP_succ hy, addS]
      rcases ih (by omega) with ⟨g1, g2, g3⟩ | ⟨g1, g2, g3, g4⟩
      · by_cases hxy : LtK x y
        · right
          rw [if_pos ⟨g1, hxy⟩, g2, htk]
          have hp : (l.take i).Pairwise LtK := hs.sublist (List.take_sublist i l)
          have hzx : ∀ z ∈ l.take i, LtK z x := fun z hz => (ht z (List.mem_of_mem_take hz)).resolve_left (g3 z hz)
          refine ⟨rfl, ?_, fun z => ?_, y, by simp, hxy⟩
          rotate_left
          · simp only [List.mem_append, List.mem_singleton]
            exact ⟨fun h => h.elim (fun h => h.elim (fun h => .inl (.inl h)) .inr) (fun h => .inl (.inr h)), fun h => h.elim (fun h => h.elim (fun h => .inl (.inl h)) .inr) (fun h => .inl (.inr h))⟩
          rw [List.append_assoc]
          refine List.pairwise_append.2 ⟨hp, by simp [hxy], fun z hz w hw => ?_⟩
          simp at hw
          rcases hw with rfl | rfl
          · exact hzx z hz
          · exact hlt z hz
        · left
          rw [if_neg (fun h => hxy h.2), g2, htk]
          refine ⟨g1, rfl, fun z hz => ?_⟩
          rcases List.mem_append.1 hz with h | h
          · exact g3 z h
          · rw [List.mem_singleton.1 h]; exact hxy
      · right
        rw [if_neg (fun h => by rw [g1] at h; cases h.1), htk]
        obtain ⟨w, hw, hxw⟩ := g4
        refine ⟨g1, ?_, fun z => ?_, w, List.mem_append.2 (.inl hw), hxw⟩
        · refine List.pairwise_append.2 ⟨g2, by simp, fun z hz u hu => ?_⟩
          have hu : u = y := by simpa using hu
          subst hu
          rcases (g3 z).1 hz with h | rfl
          · exact hlt z h
          · have := hlt w hw; unfold LtK at *; omega
        · simp only [List.mem_append, List.mem_singleton, g3]
          constructor
          · rintro ((h | h) | h)
            · exact .inl (.inl h)
            · exact .inr h
            · exact .inl (.inr h)
          · rintro ((h | h) | h)
            · exact .inl (.inl h)
            · exact .inr h
            · exact .inl (.inr h)
  have := key l.length (Nat.le_refl _)
  rw [List.take_length] at this
  unfold addL
  rcases this with ⟨g1, g2, g3⟩ | ⟨g1, g2, g3, g4⟩
  · rw [g1, if_neg (by simp), g2]
    refine ⟨List.pairwise_append.2 ⟨hs, by simp, fun z hz u hu => ?_⟩, fun y => by simp⟩
    have hu : u = x := by simpa using hu
    subst hu
    exact (ht z hz).resolve_left (g3 z hz)
  · rw [if_pos g1]
    exact ⟨g2, g3⟩
set_option maxHeartbeats 4000000 in
theorem add34_p (l : List MkS) (x : MkS) (hn : ¬ HasNm l x) (hl : l.length ≤ 100000) : CallP Tryz.prog 104 [mks l, mA x] (.tup [mks (addL l x), bl false]) := by
  have hln := addL_len l x
  refine CallA.fzt (T := 47) (by omega) ?_
  refine CallA.of pg ord104 Tryz.func104 rfl Tryz.ntmps104 Tryz.results104 rfl fun h0 G0 O0 => ?_
  repeat' (first | refine Sp.h ?_ | refine Lk.r rfl ?_ | refine Rf.mk rfl ?_ | (refine All.mk ?_; intro _) | (apply Fk.r; (focus (repeat (first | exact FillA.nil | (apply FillA.agg; (focus rfl); (focus rfl); (focus (repeat (first | exact SetAs.z | (apply SetAs.c; (focus (repeat (first | assumption | exact SetA.z | apply SetA.s)))))))) | (apply FillA.one; (focus rfl); (focus infer_instance); (focus (repeat (first | assumption | exact SetA.z | apply SetA.s)))))))) | refine Rf.mk ⟨rfl, rfl, rfl⟩ ?_ | fail)
  rename_i b3 v
  apply CA.retype (m := ([] : List MkS)) (g := mkC)
  focus (repeat (first | exact Take.here | apply Take.there))
  focus rfl
  refine CA.loop (fun q : Nat × Value × List MkS × Bool => ⟨[(0, mks l), (3, pm b3), (6, .ow q.2.1), (7, bl q.2.2.2), (8, it q.1)], [blkR b3 47 (mkC x), arrR q.2.1 47 4 q.2.2.1 mkC]⟩)
    (fun q => q.1 ≤ l.length ∧ (q.2.2.1, q.2.2.2) = addP (l.take q.1) x) (fun q => l.length - q.1) (0, v, [], false) ⟨by (repeat (first | exact trivial | refine ⟨rfl, ?_⟩)), by (repeat (first | exact Subl.nil | refine Subl.cons (by (repeat (first | exact Take.here | apply Take.there))) ?_))⟩ ⟨Nat.zero_le _, rfl⟩ ?_
  rintro ⟨i, w, out, done⟩ ⟨hi, hq⟩
  simp only at hi hq
  simp only
  have hlen := addP_len x (l.take i)
  rw [← hq, List.length_take] at hlen
  simp only at hlen
  by_cases hin : i < l.length
  · obtain ⟨y, hy⟩ := get_of hin
    have hno : ¬ (y.rep = x.rep ∧ y.num = x.num) := fun h => hn ⟨y, List.mem_of_getElem? hy, h⟩
    have hsu := addP_succ (x := x) hy
    rw [← hq, addS] at hsu
    simp only at hsu
    have h12 : y.rep ≠ x.rep ∨ y.num ≠ x.num := by omega
    by_cases hd : done = false ∧ LtK x y
    · rw [if_pos hd] at hsu
      obtain ⟨hd1, hd2⟩ := hd
      subst hd1
      by_cases hr : y.rep = x.rep
      · have hnn : y.num ≠ x.num := h12.resolve_left (fun h => h hr)
        repeat' (first | refine Sp.h ?_ | refine Lk.r rfl ?_ | refine Rf.mk rfl ?_ | (apply Bd.t; (focus (first | assumption | omega | rfl))) | (apply Bd.f; (focus (first | assumption | omega | exact Bool.false_ne_true))) | refine OpK.r rfl ?_ | (apply Om.mk; (focus first | omega | (simp <;> omega))) | (refine Im.mk ?_; intro _) | (refine All.mk ?_; intro _) | (apply TkA.r; (focus (repeat (first | exact Take.here | apply Take.there)))) | (apply TkB.r; (focus (repeat (first | exact Take.here | apply Take.there)))) | (apply Ix.q; (focus exact rfl); (focus assumption)) | refine Ce.r ?_ | refine Ch.l ⟨rfl, rfl⟩ ?_ | (apply Fk.r; (focus (repeat (first | exact FillA.nil | (apply FillA.agg; (focus rfl); (focus rfl); (focus (repeat (first | exact SetAs.z | (apply SetAs.c; (focus (repeat (first | assumption | exact SetA.z | apply SetA.s)))))))) | (apply FillA.one; (focus rfl); (focus infer_instance); (focus (repeat (first | assumption | exact SetA.z | apply SetA.s)))))))) | refine Rf.mk ⟨rfl, rfl⟩ ?_ | refine Rf.mk ⟨rfl, rfl, rfl⟩ ?_ | (apply Mp.lit; (focus repeat (first | exact MpL.nil | (apply MpL.cons; (focus rfl)) | (apply MpL.inv; (focus repeat (first | apply LN.cons | exact LN.nil)); (focus infer_instance))))) | (apply CA.draw; (focus rfl); (focus kernel_rfl); (focus kernel_rfl); (focus repeat' (first | apply ON.one | exact ON.done | exact ON.none | apply ON.alt)); (focus rfl)) | (apply Ov.n; (focus first | omega | (simp <;> omega))) | fail | (apply Cl.p (less34_p _ _); (focus repeat' (first | exact Lend.nil | apply Lend.keep | fail))))
        all_goals exact PA.lp (i + 1, _, out ++ [x] ++ [y], true) ⟨by (repeat (first | exact trivial | refine ⟨rfl, ?_⟩)), by (repeat (first | exact Subl.nil | refine Subl.cons (by (repeat (first | exact Take.here | apply Take.there))) ?_))⟩ ⟨⟨hin, hsu.symm⟩, by simp only; omega⟩
      · repeat' (first | refine Sp.h ?_ | refine Lk.r rfl ?_ | refine Rf.mk rfl ?_ | (apply Bd.t; (focus (first | assumption | omega | rfl))) | (apply Bd.f; (focus (first | assumption | omega | exact Bool.false_ne_true))) | refine OpK.r rfl ?_ | (apply Om.mk; (focus first | omega | (simp <;> omega))) | (refine Im.mk ?_; intro _) | (refine All.mk ?_; intro _) | (apply TkA.r; (focus (repeat (first | exact Take.here | apply Take.there)))) | (apply TkB.r; (focus (repeat (first | exact Take.here | apply Take.there)))) | (apply Ix.q; (focus exact rfl); (focus assumption)) | refine Ce.r ?_ | refine Ch.l ⟨rfl, rfl⟩ ?_ | (apply Fk.r; (focus (repeat (first | exact FillA.nil | (apply FillA.agg; (focus rfl); (focus rfl); (focus (repeat (first | exact SetAs.z | (apply SetAs.c; (focus (repeat (first | assumption | exact SetA.z | apply SetA.s)))))))) | (apply FillA.one; (focus rfl); (focus infer_instance); (focus (repeat (first | assumption | exact SetA.z | apply SetA.s)))))))) | refine Rf.mk ⟨rfl, rfl⟩ ?_ | refine Rf.mk ⟨rfl, rfl, rfl⟩ ?_ | (apply Mp.lit; (focus repeat (first | exact MpL.nil | (apply MpL.cons; (focus rfl)) | (apply MpL.inv; (focus repeat (first | apply LN.cons | exact LN.nil)); (focus infer_instance))))) | (apply CA.draw; (focus rfl); (focus kernel_rfl); (focus kernel_rfl); (focus repeat' (first | apply ON.one | exact ON.done | exact ON.none | apply ON.alt)); (focus rfl)) | (apply Ov.n; (focus first | omega | (simp <;> omega))) | fail | (apply Cl.p (less34_p _ _); (focus repeat' (first | exact Lend.nil | apply Lend.keep | fail))))
        all_goals exact PA.lp (i + 1, _, out ++ [x] ++ [y], true) ⟨by (repeat (first | exact trivial | refine ⟨rfl, ?_⟩)), by (repeat (first | exact Subl.nil | refine Subl.cons (by (repeat (first | exact Take.here | apply Take.there))) ?_))⟩ ⟨⟨hin, hsu.symm⟩, by simp only; omega⟩
    · rw [if_neg hd] at hsu
      cases done
      · have hd2 : ¬ LtK x y := fun h => hd ⟨rfl, h⟩
        by_cases hr : y.rep = x.rep
        · have hnn : y.num ≠ x.num := h12.resolve_left (fun h => h hr)
          repeat' (first | refine Sp.h ?_ | refine Lk.r rfl ?_ | refine Rf.mk rfl ?_ | (apply Bd.t; (focus (first | assumption | omega | rfl))) | (apply Bd.f; (focus (first | assumption | omega | exact Bool.false_ne_true))) | refine OpK.r rfl ?_ | (apply Om.mk; (focus first | omega | (simp <;> omega))) | (refine Im.mk ?_; intro _) | (refine All.mk ?_; intro _) | (apply TkA.r; (focus (repeat (first | exact Take.here | apply Take.there)))) | (apply TkB.r; (focus (repeat (first | exact Take.here | apply Take.there)))) | (apply Ix.q; (focus exact rfl); (focus assumption)) | refine Ce.r ?_ | refine Ch.l ⟨rfl, rfl⟩ ?_ | (apply Fk.r; (focus (repeat (first | exact FillA.nil | (apply FillA.agg; (focus rfl); (focus rfl); (focus (repeat (first | exact SetAs.z | (apply SetAs.c; (focus (repeat (first | assumption | exact SetA.z | apply SetA.s)))))))) | (apply FillA.one; (focus rfl); (focus infer_instance); (focus (repeat (first | assumption | exact SetA.z | apply SetA.s)))))))) | refine Rf.mk ⟨rfl, rfl⟩ ?_ | refine Rf.mk ⟨rfl, rfl, rfl⟩ ?_ | (apply Mp.lit; (focus repeat (first | exact MpL.nil | (apply MpL.cons; (focus rfl)) | (apply MpL.inv; (focus repeat (first | apply LN.cons | exact LN.nil)); (focus infer_instance))))) | (apply CA.draw; (focus rfl); (focus kernel_rfl); (focus kernel_rfl); (focus repeat' (first | apply ON.one | exact ON.done | exact ON.none | apply ON.alt)); (focus rfl)) | (apply Ov.n; (focus first | omega | (simp <;> omega))) | fail | (apply Cl.p (less34_p _ _); (focus repeat' (first | exact Lend.nil | apply Lend.keep | fail))))
          all_goals exact PA.lp (i + 1, _, out ++ [y], false) ⟨by (repeat (first | exact trivial | refine ⟨rfl, ?_⟩)), by (repeat (first | exact Subl.nil | refine Subl.cons (by (repeat (first | exact Take.here | apply Take.there))) ?_))⟩ ⟨⟨hin, hsu.symm⟩, by simp only; omega⟩
        · repeat' (first | refine Sp.h ?_ | refine Lk.r rfl ?_ | refine Rf.mk rfl ?_ | (apply Bd.t; (focus (first | assumption | omega | rfl))) | (apply Bd.f; (focus (first | assumption | omega | exact Bool.false_ne_true))) | refine OpK.r rfl ?_ | (apply Om.mk; (focus first | omega | (simp <;> omega))) | (refine Im.mk ?_; intro _) | (refine All.mk ?_; intro _) | (apply TkA.r; (focus (repeat (first | exact Take.here | apply Take.there)))) | (apply TkB.r; (focus (repeat (first | exact Take.here | apply Take.there)))) | (apply Ix.q; (focus exact rfl); (focus assumption)) | refine Ce.r ?_ | refine Ch.l ⟨rfl, rfl⟩ ?_ | (apply Fk.r; (focus (repeat (first | exact FillA.nil | (apply FillA.agg; (focus rfl); (focus rfl); (focus (repeat (first | exact SetAs.z | (apply SetAs.c; (focus (repeat (first | assumption | exact SetA.z | apply SetA.s)))))))) | (apply FillA.one; (focus rfl); (focus infer_instance); (focus (repeat (first | assumption | exact SetA.z | apply SetA.s)))))))) | refine Rf.mk ⟨rfl, rfl⟩ ?_ | refine Rf.mk ⟨rfl, rfl, rfl⟩ ?_ | (apply Mp.lit; (focus repeat (first | exact MpL.nil | (apply MpL.cons; (focus rfl)) | (apply MpL.inv; (focus repeat (first | apply LN.cons | exact LN.nil)); (focus infer_instance))))) | (apply CA.draw; (focus rfl); (focus kernel_rfl); (focus kernel_rfl); (focus repeat' (first | apply ON.one | exact ON.done | exact ON.none | apply ON.alt)); (focus rfl)) | (apply Ov.n; (focus first | omega | (simp <;> omega))) | fail | (apply Cl.p (less34_p _ _); (focus repeat' (first | exact Lend.nil | apply Lend.keep | fail))))
          all_goals exact PA.lp (i + 1, _, out ++ [y], false) ⟨by (repeat (first | exact trivial | refine ⟨rfl, ?_⟩)), by (repeat (first | exact Subl.nil | refine Subl.cons (by (repeat (first | exact Take.here | apply Take.there))) ?_))⟩ ⟨⟨hin, hsu.symm⟩, by simp only; omega⟩
      · by_cases hr : y.rep = x.rep
        · have hnn : y.num ≠ x.num := h12.resolve_left (fun h => h hr)
          repeat' (first | refine Sp.h ?_ | refine Lk.r rfl ?_ | refine Rf.mk rfl ?_ | (apply Bd.t; (focus (first | assumption | omega | rfl))) | (apply Bd.f; (focus (first | assumption | omega | exact Bool.false_ne_true))) | refine OpK.r rfl ?_ | (apply Om.mk; (focus first | omega | (simp <;> omega))) | (refine Im.mk ?_; intro _) | (refine All.mk ?_; intro _) | (apply TkA.r; (focus (repeat (first | exact Take.here | apply Take.there)))) | (apply TkB.r; (focus (repeat (first | exact Take.here | apply Take.there)))) | (apply Ix.q; (focus exact rfl); (focus assumption)) | refine Ce.r ?_ | refine Ch.l ⟨rfl, rfl⟩ ?_ | (apply Fk.r; (focus (repeat (first | exact FillA.nil | (apply FillA.agg; (focus rfl); (focus rfl); (focus (repeat (first | exact SetAs.z | (apply SetAs.c; (focus (repeat (first | assumption | exact SetA.z | apply SetA.s)))))))) | (apply FillA.one; (focus rfl); (focus infer_instance); (focus (repeat (first | assumption | exact SetA.z | apply SetA.s)))))))) | refine Rf.mk ⟨rfl, rfl⟩ ?_ | refine Rf.mk ⟨rfl, rfl, rfl⟩ ?_ | (apply Mp.lit; (focus repeat (first | exact MpL.nil | (apply MpL.cons; (focus rfl)) | (apply MpL.inv; (focus repeat (first | apply LN.cons | exact LN.nil)); (focus infer_instance))))) | (apply CA.draw; (focus rfl); (focus kernel_rfl); (focus kernel_rfl); (focus repeat' (first | apply ON.one | exact ON.done | exact ON.none | apply ON.alt)); (focus rfl)) | (apply Ov.n; (focus first | omega | (simp <;> omega))) | fail | (apply Cl.p (less34_p _ _); (focus repeat' (first | fail))))
          all_goals exact PA.lp (i + 1, _, out ++ [y], true) ⟨by (repeat (first | exact trivial | refine ⟨rfl, ?_⟩)), by (repeat (first | exact Subl.nil | refine Subl.cons (by (repeat (first | exact Take.here | apply Take.there))) ?_))⟩ ⟨⟨hin, hsu.symm⟩, by simp only; omega⟩
        · repeat' (first | refine Sp.h ?_ | refine Lk.r rfl ?_ | refine Rf.mk rfl ?_ | (apply Bd.t; (focus (first | assumption | omega | rfl))) | (apply Bd.f; (focus (first | assumption | omega | exact Bool.false_ne_true))) | refine OpK.r rfl ?_ | (apply Om.mk; (focus first | omega | (simp <;> omega))) | (refine Im.mk ?_; intro _) | (refine All.mk ?_; intro _) | (apply TkA.r; (focus (repeat (first | exact Take.here | apply Take.there)))) | (apply TkB.r; (focus (repeat (first | exact Take.here | apply Take.there)))) | (apply Ix.q; (focus exact rfl); (focus assumption)) | refine Ce.r ?_ | refine Ch.l ⟨rfl, rfl⟩ ?_ | (apply Fk.r; (focus (repeat (first | exact FillA.nil | (apply FillA.agg; (focus rfl); (focus rfl); (focus (repeat (first | exact SetAs.z | (apply SetAs.c; (focus (repeat (first | assumption | exact SetA.z | apply SetA.s)))))))) | (apply FillA.one; (focus rfl); (focus infer_instance); (focus (repeat (first | assumption | exact SetA.z | apply SetA.s)))))))) | refine Rf.mk ⟨rfl, rfl⟩ ?_ | refine Rf.mk ⟨rfl, rfl, rfl⟩ ?_ | (apply Mp.lit; (focus repeat (first | exact MpL.nil | (apply MpL.cons; (focus rfl)) | (apply MpL.inv; (focus repeat (first | apply LN.cons | exact LN.nil)); (focus infer_instance))))) | (apply CA.draw; (focus rfl); (focus kernel_rfl); (focus kernel_rfl); (focus repeat' (first | apply ON.one | exact ON.done | exact ON.none | apply ON.alt)); (focus rfl)) | (apply Ov.n; (focus first | omega | (simp <;> omega))) | fail | (apply Cl.p (less34_p _ _); (focus repeat' (first | fail))))
          all_goals exact PA.lp (i + 1, _, out ++ [y], true) ⟨by (repeat (first | exact trivial | refine ⟨rfl, ?_⟩)), by (repeat (first | exact Subl.nil | refine Subl.cons (by (repeat (first | exact Take.here | apply Take.there))) ?_))⟩ ⟨⟨hin, hsu.symm⟩, by simp only; omega⟩
  · have hie : i = l.length := by omega
    subst hie
    rw [List.take_length] at hq
    cases done
    · have he : addL l x = out ++ [x] := by rw [addL, ← hq]; rfl
      rw [he]
      repeat' (first | refine Sp.h ?_ | refine Lk.r rfl ?_ | refine Rf.mk rfl ?_ | (apply Bd.f; (focus (first | assumption | omega | exact Bool.false_ne_true))) | (apply Om.mk; (focus first | omega | (simp <;> omega))) | (refine Im.mk ?_; intro _) | (refine All.mk ?_; intro _) | (apply TkA.r; (focus (repeat (first | exact Take.here | apply Take.there)))) | (apply TkB.r; (focus (repeat (first | exact Take.here | apply Take.there)))) | refine Ce.r ?_ | refine Ch.l ⟨rfl, rfl⟩ ?_ | (apply Fk.r; (focus (repeat (first | exact FillA.nil | (apply FillA.agg; (focus rfl); (focus rfl); (focus (repeat (first | exact SetAs.z | (apply SetAs.c; (focus (repeat (first | assumption | exact SetA.z | apply SetA.s)))))))) | (apply FillA.one; (focus rfl); (focus infer_instance); (focus (repeat (first | assumption | exact SetA.z | apply SetA.s)))))))) | (apply Nm.r; (focus repeat (first | apply LN.cons | exact LN.nil))) | refine Rf.mk ⟨rfl, rfl⟩ ?_ | refine Rf.mk ⟨rfl, rfl, rfl⟩ ?_ | (apply Mp.lit; (focus repeat (first | exact MpL.nil | (apply MpL.cons; (focus rfl)) | (apply MpL.inv; (focus repeat (first | apply LN.cons | exact LN.nil)); (focus infer_instance))))) | fail)
      exact ⟨_, _, .tup (.same (.same (.nil (by (repeat (first | exact Subl.nil | refine Subl.cons (by (repeat (first | exact Take.here | apply Take.there))) ?_)))))), _, rfl, rfl⟩
    · have he : addL l x = out := by rw [addL, ← hq]; rfl
      rw [he]
      repeat' (first | refine Sp.h ?_ | refine Lk.r rfl ?_ | refine Rf.mk rfl ?_ | (apply Bd.t; (focus (first | assumption | omega | rfl))) | (apply Bd.f; (focus (first | assumption | omega | exact Bool.false_ne_true))) | (refine Im.mk ?_; intro _) | (apply Nm.r; (focus repeat (first | apply LN.cons | exact LN.nil))) | fail)
      exact ⟨_, _, .tup (.same (.same (.nil (by (repeat (first | exact Subl.nil | refine Subl.cons (by (repeat (first | exact Take.here | apply Take.there))) ?_)))))), _, rfl, rfl⟩
end Go.Proofs.YtpgpdmmobblffaaGreat
