/- Plain laws of what is heard of a closed part of a closed list; there are no conditions. -/
import Derived.Test.YtkcbaalbgobndaaNm
namespace Go.Proofs.Ytkcbaalbgobndaa
open Go Go.CF
set_option maxRecDepth 20000
/-- What a row becomes by an event. -/
def hasS (q : Nat) (h : List Int) (e : EvS) : List Int := if e.rep.toNat = q then joinC h (hearC e) else h
def hasN (n q : Nat) (P : List EvS) : List Int := P.foldl (hasS q) (List.replicate n 0)
/-- The rows by events. -/
def hearN (n : Nat) (P : List EvS) : List (List Int) := P.foldl (fun R e => R.set e.rep.toNat (joinC (R[e.rep.toNat]?.getD []) (hearC e))) (rows0 n n)
theorem hasN_succ (n q : Nat) {P : List EvS} {i : Nat} {e : EvS} (he : P[i]? = some e) : hasN n q (P.take (i + 1)) = hasS q (hasN n q (P.take i)) e := by
  unfold hasN; rw [List.take_add_one, he, List.foldl_append]; rfl
theorem hearN_succ (n : Nat) {P : List EvS} {i : Nat} {e : EvS} (he : P[i]? = some e) {a : List Int} (ha : (hearN n (P.take i))[e.rep.toNat]? = some a) : hearN n (P.take (i + 1)) = (hearN n (P.take i)).set e.rep.toNat (joinC a (hearC e)) := by
  rw [List.take_add_one, he, hearN, List.foldl_append]
  change List.set _ _ (joinC ((hearN n (P.take i))[e.rep.toNat]?.getD []) (hearC e)) = _
  rw [ha]; rfl
theorem hear_len {e : EvS} : (hearC e).length = e.past.length := List.length_set
theorem join_len {a b : List Int} (h : a.length = b.length) : (joinC a b).length = a.length := zipC_len h
theorem join_val {a b : List Int} (ha : ValC a) (hb : ValC b) (h : a.length = b.length) : ValC (joinC a b) := by
  refine ⟨fun x hx => ?_, by rw [join_len h]; exact ha.2⟩
  obtain ⟨i, hi⟩ := List.getElem?_of_mem hx
  unfold joinC zipC at hi
  rw [List.getElem?_zipWith] at hi
  cases hai : a[i]? with
  | none => rw [hai] at hi; simp at hi
  | some p =>
    cases hbi : b[i]? with
    | none => rw [hai, hbi] at hi; simp at hi
    | some q =>
      rw [hai, hbi] at hi
      have h1 := ha.1 p (List.mem_of_getElem? hai)
      have h2 := hb.1 q (List.mem_of_getElem? hbi)
      unfold rngK at *
      simp at hi
      omega
theorem zero_val {n : Nat} (hn : 1 ≤ n ∧ n ≤ 5) : ValC (List.replicate n 0) := ⟨fun x hx => by rw [List.eq_of_mem_replicate hx]; unfold rngK; omega, by rw [List.length_replicate]; exact hn⟩
def GoodE (n : Nat) (P : List EvS) : Prop := ∀ e ∈ P, FormedE e ∧ e.past.length = n
theorem hasN_ok {n : Nat} (hn : 1 ≤ n ∧ n ≤ 5) (q : Nat) {P : List EvS} (hP : GoodE n P) : ValC (hasN n q P) ∧ (hasN n q P).length = n := by
  have key : ∀ (P : List EvS) (h : List Int), GoodE n P → ValC h ∧ h.length = n → ValC (P.foldl (hasS q) h) ∧ (P.foldl (hasS q) h).length = n := by
    intro P
    induction P with
    | nil => exact fun _ _ h => h
    | cons e P ih =>
      intro h hP hh
      obtain ⟨hf, hl⟩ := hP e (by simp)
      refine ih _ (fun x hx => hP x (by simp [hx])) ?_
      unfold hasS
      split
      · have := hear_fits hf
        exact ⟨join_val hh.1 this.1 (by rw [hear_len]; omega), by rw [join_len (by rw [hear_len]; omega)]; exact hh.2⟩
      · exact hh
  exact key P _ hP ⟨zero_val hn, by rw [List.length_replicate]⟩
theorem hearN_ok {n : Nat} (hn : 1 ≤ n ∧ n ≤ 5) {P : List EvS} (hP : GoodE n P) : (hearN n P).length = 5 ∧ ∀ q, q < n → (hearN n P)[q]? = some (hasN n q P) := by
  have key : ∀ (P : List EvS) (R : List (List Int)) (z : Nat → List Int), GoodE n P → R.length = 5 → (∀ q, q < n → R[q]? = some (z q)) →
      (P.foldl (fun R e => R.set e.rep.toNat (joinC (R[e.rep.toNat]?.getD []) (hearC e))) R).length = 5 ∧ ∀ q, q < n → (P.foldl (fun R e => R.set e.rep.toNat (joinC (R[e.rep.toNat]?.getD []) (hearC e))) R)[q]? = some (P.foldl (hasS q) (z q)) := by
    intro P
    induction P with
    | nil => exact fun _ _ _ h1 h2 => ⟨h1, h2⟩
    | cons e P ih =>
      intro R z hP h1 h2
      have hr : e.rep.toNat < n := by have := hP e (by simp); have h9 := form_rep this.1; omega
      refine ih _ (fun q => hasS q (z q) e) (fun x hx => hP x (by simp [hx])) (by rw [List.length_set]; exact h1) fun q hq => ?_
      rw [List.getElem?_set]
      unfold hasS
      by_cases hqr : e.rep.toNat = q
      · rw [if_pos hqr, if_pos (by omega), if_pos hqr, h2 _ hr, hqr]; rfl
      · rw [if_neg hqr, if_neg hqr]; exact h2 q hq
  refine key P _ _ hP (by simp [rows0]; omega) fun q hq => ?_
  unfold rows0
  rw [List.getElem?_append_left (by rw [List.length_replicate]; exact hq), List.getElem?_replicate, if_pos hq]
theorem hearN_kn {n : Nat} (hn : 1 ≤ n ∧ n ≤ 5) {P : List EvS} (hP : GoodE n P) : KnOK n (hearN n P) := by
  obtain ⟨h1, h2⟩ := hearN_ok hn hP
  refine ⟨hn.1, hn.2, h1, fun i c hi hc => ?_⟩
  rw [h2 i hi] at hc; cases hc
  exact hasN_ok hn i hP
/-- The step as the statement takes it. -/
theorem has_step {h p : List Int} {q : Nat} {m y : Int} (hl : h.length = p.length) (hp : p[q]? = some (m - 1)) (hy : (joinC h p)[q]? = some y) : (joinC h p).set q (max y m) = joinC h (p.set q m) := by
  have hq := (List.getElem?_eq_some_iff.1 hp).1
  apply List.ext_getElem?
  intro i
  rw [List.getElem?_set]
  unfold joinC zipC at hy ⊢
  by_cases hi : q = i
  · subst hi
    rw [if_pos rfl, if_pos (by simp; omega), List.getElem?_zipWith, List.getElem?_set, if_pos rfl, if_pos hq]
    rw [List.getElem?_zipWith, hp] at hy
    cases hh : h[q]? with
    | none => rw [hh] at hy; simp at hy
    | some x => rw [hh] at hy; simp at hy; simp; omega
  · rw [if_neg hi, List.getElem?_zipWith, List.getElem?_zipWith, List.getElem?_set, if_neg hi]
/-! ### The stable clock -/
theorem zip_min_le1 {a b : List Int} : Le (zipC min a b) a := fun i x y hx hy => by
  unfold zipC at hx
  rw [List.getElem?_zipWith, hy] at hx
  cases hb : b[i]? with
  | none => rw [hb] at hx; simp at hx
  | some z => rw [hb] at hx; simp at hx; omega
theorem zip_min_le2 {a b : List Int} : Le (zipC min a b) b := fun i x y hx hy => by
  unfold zipC at hx
  rw [List.getElem?_zipWith, hy] at hx
  cases hb : a[i]? with
  | none => rw [hb] at hx; simp at hx
  | some z => rw [hb] at hx; simp at hx; omega
theorem fold_min_le : ∀ {r : List (List Int)} {d : List Int}, (∀ c ∈ r, c.length = d.length) → ∀ c ∈ d :: r, Le (r.foldl (zipC min) d) c
  | [], d, _, c, hc => by rcases List.mem_singleton.1 hc with rfl; exact fun i x y hx hy => by rw [List.foldl_nil] at hx; rw [hx] at hy; cases hy; exact Int.le_refl _
  | a :: r, d, h, c, hc => by
    have hal := h a (by simp)
    have hz : (zipC min d a).length = d.length := zipC_len (by omega)
    have ih := fold_min_le (r := r) (d := zipC min d a) fun x hx => by rw [hz]; exact h x (by simp [hx])
    have hlen : (r.foldl (zipC min) (zipC min d a)).length ≤ (zipC min d a).length := by
      have := foldN_len (op := min) (d := zipC min d a) (r := r) (fun x hx => by rw [hz]; exact h x (by simp [hx])) r.length
      unfold foldN at this; rw [List.take_length] at this; omega
    rw [List.foldl_cons]
    rcases List.mem_cons.1 hc with rfl | hc
    · exact (ih _ (by simp)).trans zip_min_le1 hlen
    · rcases List.mem_cons.1 hc with rfl | hc
      · exact (ih _ (by simp)).trans zip_min_le2 hlen
      · exact ih c (by simp [hc])
theorem stable_le {L : List (List Int)} (h : AlikeC L) {c : List Int} (hc : c ∈ L) : Le (foldC min L) c := by
  obtain ⟨d, r, rfl⟩ := alike_cons h
  exact fold_min_le (r := r) (d := d) (fun a ha => (h.2 a (List.mem_cons_of_mem _ ha)).2) c hc
theorem has_le {n : Nat} {q : Nat} {P : List EvS} {x : List Int} (hP : GoodE n P) (hx0 : ∀ y ∈ x, 0 ≤ y) (h : ∀ e ∈ P, e.rep.toNat = q → Le (hearC e) x) : Le (hasN n q P) x := by
  have key : ∀ (P : List EvS) (z : List Int), GoodE n P → (∀ e ∈ P, e.rep.toNat = q → Le (hearC e) x) → Le z x → Le (P.foldl (hasS q) z) x := by
    intro P
    induction P with
    | nil => exact fun _ _ _ h => h
    | cons e P ih =>
      intro z hP h hz
      refine ih _ (fun a ha => hP a (by simp [ha])) (fun a ha => h a (by simp [ha])) ?_
      unfold hasS
      split
      · rename_i hq
        have he := h e (by simp) hq
        intro i a b ha hb
        unfold joinC zipC at ha
        rw [List.getElem?_zipWith] at ha
        cases hz1 : z[i]? with
        | none => rw [hz1] at ha; simp at ha
        | some u =>
          cases hh : (hearC e)[i]? with
          | none => rw [hz1, hh] at ha; simp at ha
          | some w =>
            rw [hz1, hh] at ha
            have h1 := hz i u b hz1 hb
            have h2 := he i w b hh hb
            simp at ha; omega
      · exact hz
  refine key P _ hP h fun i a b ha hb => ?_
  rw [List.getElem?_replicate] at ha
  split at ha
  · cases ha; exact hx0 b (List.mem_of_getElem? hb)
  · cases ha
theorem hear_le {l : List EvS} {r : List Int} (hc : ClosedE l) {e x : EvS} (he : e ∈ cutL l r) (hx : x ∈ l) (hxr : ¬ HasC r x.rep x.num) (hv : ValC r) (hq : e.rep.toNat = x.rep.toNat) : Le (hearC e) x.past := by
  obtain ⟨hel, h1, h2, h3, w, hw, hwn⟩ := cut_mem.1 he
  have hxf := (hc.2.2.1 x hx).1
  have hx1 := form_num hxf
  have hx2 : 0 ≤ x.rep := hxf.2.1
  obtain ⟨m, hm, hmn⟩ := hxf.2.2.1
  have hxw : w < x.num := by
    refine Int.not_le.1 fun h9 => hxr ⟨hv, hx2, hx1.1, w, by rw [← hq]; exact hw, h9⟩
  obtain ⟨y, hy, k1, k2, k3, -⟩ := hc.2.2.2 x hx x.rep.toNat m hm e.num h3 (by omega)
  have hye : y = e := hc.2.1.eq hy hel (by unfold nm; rw [k1, k2]; congr 1; omega)
  subst hye
  intro i a b ha hb
  unfold hearC at ha
  rw [List.getElem?_set] at ha
  split at ha
  · rename_i hi
    split at ha
    · cases ha
      rw [← hi, hq, hm] at hb; cases hb; omega
    · cases ha
  · exact k3.2 i a b ha hb
theorem hear_stable {n : Nat} (hn : 1 ≤ n ∧ n ≤ 5) {l : List EvS} {r : List Int} (hc : ClosedE l) (hf : GoodE n l) (hv : ValC r) {x : EvS} (hx : x ∈ l) (hxr : ¬ HasC r x.rep x.num) : Ins (foldC min ((hearN n (cutL l r)).take n)) x.past := by
  have hP : GoodE n (cutL l r) := fun e he => hf e (cut_mem.1 he).1
  obtain ⟨hxf, hxl⟩ := hf x hx
  have hxp := form_rep hxf
  have hat := (hearN_ok hn hP).2 x.rep.toNat (by omega)
  have hkn := hearN_kn hn hP
  have h1 : Le (foldC min ((hearN n (cutL l r)).take n)) (hasN n x.rep.toNat (cutL l r)) :=
    stable_le (kn_alike hkn) (List.mem_of_getElem? (i := x.rep.toNat) (by rw [List.getElem?_take, if_pos (by omega)]; exact hat))
  have h2 : Le (hasN n x.rep.toNat (cutL l r)) x.past := has_le hP (fun y hy => (hxf.1.1 y hy).1) fun e he hq => hear_le hc he hx hxr hv hq
  refine h1.trans h2 ?_
  rw [(hasN_ok hn _ hP).2, fold_len (kn_alike hkn)]
  have h3 : ((hearN n (cutL l r)).take n)[0]? = some (hasN n 0 (cutL l r)) := by rw [List.getElem?_take, if_pos (by omega)]; exact (hearN_ok hn hP).2 0 (by omega)
  rw [h3]
  exact Nat.le_of_eq (hasN_ok hn 0 hP).2
theorem meet_val {a b : List Int} (ha : ValC a) (hb : ValC b) (h : a.length = b.length) : ValC (zipC min a b) := by
  refine ⟨fun x hx => ?_, by rw [zipC_len h]; exact ha.2⟩
  obtain ⟨i, hi⟩ := List.getElem?_of_mem hx
  unfold zipC at hi
  rw [List.getElem?_zipWith] at hi
  cases hai : a[i]? with
  | none => rw [hai] at hi; simp at hi
  | some p =>
    cases hbi : b[i]? with
    | none => rw [hai, hbi] at hi; simp at hi
    | some q =>
      rw [hai, hbi] at hi
      have h1 := ha.1 p (List.mem_of_getElem? hai)
      have h2 := hb.1 q (List.mem_of_getElem? hbi)
      unfold rngK at *
      simp at hi
      omega
end Go.Proofs.Ytkcbaalbgobndaa
