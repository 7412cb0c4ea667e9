/- Part 14 of the ground of this proof: what its texts say of the model, the program and the plain data; conditions: those that are named. -/
import Derived.Test.YtmjllbjfkafhdaaGreatDoorP13
namespace Go.Proofs.YtmjllbjfkafhdaaGreatDoor
open Go Go.CF
set_option maxRecDepth 20000
theorem sumK_step {sizes : List Int} {s : Bool} {l : List TblS} (i : Nat) : sumK sizes s (l.take i) ≤ sumK sizes s (l.take (i + 1)) := by
 by_cases h : i < l.length
 ·obtain ⟨t, ht⟩ := get_of h
  rw [sumK_succ ht]
  have := num_le sizes t.cols
  split <;> omega
 ·rw [List.take_of_length_le (by omega), List.take_of_length_le (by omega)];omega
theorem sumK_mono {sizes : List Int} {s : Bool} {l : List TblS} {i j : Nat} (h : i ≤ j) : sumK sizes s (l.take i) ≤ sumK sizes s (l.take j) := by
 obtain ⟨d, rfl⟩ := Nat.exists_eq_add_of_le h
 induction d with
 | zero => exact Int.le_refl _
 | succ d ih => exact Int.le_trans (ih (by omega)) (sumK_step (i + d))
theorem lay_before {sizes : List Int} {l : List TblS} (hl : LayX sizes l) {i j : Nat} {t u : TblS} (hij : j < i) (hu : l[j]? = some u) (ht : l[i]? = some t) (hk : decide (isStrict u.kind) = decide (isStrict t.kind)) : u.first + numF sizes u.cols ≤ t.first := by
 rw [(hl.t i t ht).fs, (hl.t j u hu).fs, hk]
 have h1 := sumK_succ (sizes := sizes) (s := decide (isStrict t.kind)) hu
 rw [if_pos hk] at h1
 have h2 := sumK_mono (sizes := sizes) (s := decide (isStrict t.kind)) (l := l) (show j + 1 ≤ i by omega)
 omega
theorem tup_rel {sizes : List Int} {l : List TblS} {s : Bool} (hl : LayX sizes l) {i : Nat} {t : TblS} (ht : l[i]? = some t) (hs : decide (isStrict t.kind) = s) {k : Int} (hk : 0 ≤ k ∧ k < numF sizes t.cols) : tupF sizes l s (t.first + k) = some (i, (nthF sizes t.cols k).1) := by
 have hf := hl.first ht
 rw [tupF_at hl (by omega) ht ⟨hs, by omega, by omega⟩ fun j y hj hy hc => ?_]
 ·rw [show t.first + k - t.first = k by omega]
 ·have := lay_before hl hj hy ht (by rw [hc.1, hs])
  have := hc.2.2
  omega
theorem num_one {sizes : List Int} {x y : Int} (hc : ColOK sizes [x]) (hy : sizes[x.toNat]? = some y) : numF sizes [x] = y := by
 rw [numF, if_pos hc, prodF, List.foldl_cons, List.foldl_nil, hy]
 simp
theorem nth_one {sizes : List Int} {x y k : Int} (hy : sizes[x.toNat]? = some y) (hk : 0 ≤ k ∧ k < y) : (nthF sizes [x] k).1 = [k] := by
 simp only [nthF, hy, Option.getD_some]
 rw [Int.emod_eq_of_lt hk.1 hk.2]
theorem nth_rng {sizes : List Int} (hs : Sound sizes) {k : Int} (hk : 0 ≤ k) : ∀ (cols : List Int) (j : Nat) (x y : Int), cols[j]? = some x → (nthF sizes cols k).1[j]? = some y → 0 ≤ y ∧ ∀ z, sizes[x.toNat]? = some z → y < z
 | [], j, x, y, h, _ => by simp at h
 | c :: cs, 0, x, y, h1, h2 => by
  simp only [List.getElem?_cons_zero, Option.some.injEq] at h1
  subst h1
  simp only [nthF, List.getElem?_cons_zero, Option.some.injEq] at h2
  cases hz : sizes[c.toNat]? with
  | none =>
   rw [hz, Option.getD_none] at h2
   exact ⟨by rw [← h2];exact Int.emod_nonneg _ (by omega), fun z h => by cases h⟩
  | some w =>
   have hw := hs w (List.mem_of_getElem? hz)
   rw [hz, Option.getD_some] at h2
   refine ⟨by rw [← h2];exact Int.emod_nonneg _ (by omega), fun z h => ?_⟩
   cases h
   rw [← h2];exact Int.emod_lt_of_pos _ (by omega)
 | c :: cs, j + 1, x, y, h1, h2 => by
  simp only [nthF, List.getElem?_cons_succ] at h1 h2
  exact nth_rng hs hk cs j x y h1 h2
theorem tup_ex {sizes : List Int} {l : List TblS} {s : Bool} (hl : LayX sizes l) {c : Int} (hc : 0 ≤ c) (hc2 : c < sumK sizes s l) : ∃ (i : Nat) (t : TblS), l[i]? = some t ∧ decide (isStrict t.kind) = s ∧ 0 ≤ c - t.first ∧ c - t.first < numF sizes t.cols ∧ tupF sizes l s c = some (i, (nthF sizes t.cols (c - t.first)).1) := by
 have key : ∀ n, c < sumK sizes s (l.take n) → ∃ i, sumK sizes s (l.take i) ≤ c ∧ c < sumK sizes s (l.take (i + 1)) := by
  intro n
  induction n with
  | zero => intro h;simp [sumK] at h;omega
  | succ n ih =>
   intro h
   by_cases h1 : c < sumK sizes s (l.take n)
   ·exact ih h1
   ·exact ⟨n, by omega, h⟩
 obtain ⟨i, h1, h2⟩ := key l.length (by rw [List.take_length];exact hc2)
 have hi : i < l.length := by
  refine Nat.lt_of_not_le fun h => ?_
  rw [List.take_of_length_le h] at h1
  rw [List.take_of_length_le (by omega)] at h2
  omega
 obtain ⟨t, ht⟩ := get_of hi
 rw [sumK_succ ht] at h2
 have hs : decide (isStrict t.kind) = s := by
  by_cases h : decide (isStrict t.kind) = s
  ·exact h
  ·rw [if_neg h] at h2;omega
 rw [if_pos hs] at h2
 have hf := (hl.t i t ht).fs
 rw [hs] at hf
 have := tup_rel hl ht hs (k := c - t.first) (by omega)
 rw [show t.first + (c - t.first) = c by omega] at this
 exact ⟨i, t, ht, hs, by omega, by omega, this⟩
theorem strF_sum {m : ModS} (hm : LayOK m.sorts m.tables) : (strF m : Int) = sumK m.sorts true m.tables := by
 have key : ∀ l : List TblS, (∀ t ∈ l, t ∈ m.tables) → (strN m l : Int) = sumK m.sorts true l := by
  intro l
  induction l with
  | nil => intro _;rfl
  | cons t l ih =>
   intro h
   have ih := ih fun t ht => h t (by simp [ht])
   have hc := (hm.2.2.2 t (h t (by simp))).1
   have h1 := (sz_fit hc).1
   unfold strN sumK at ih ⊢
   simp only [List.map_cons, List.sum_cons]
   rw [← ih]
   by_cases hs : isStrict t.kind
   ·rw [if_pos hs, if_pos (decide_eq_true hs), numF, if_pos hc];omega
   ·rw [if_neg hs, if_neg (by simp [hs])];omega
 exact key m.tables fun _ h => h
theorem strR_len {m : ModS} (hl : LayX m.sorts m.tables) : (strR m).length = strF m := by
 have h1 := strF_sum hl.ok
 have h2 := rngL_len m.sorts true m.tables
 have h3 : strR m = rngL m.sorts true m.tables := by
  show rngF m.sorts true m.tables = _
  rw [rngF, if_pos hl]
 rw [h3];omega
def hcell (m : ModS) (q : List Int) (h : Int × Int × Int) : Int := ((m.tables[h.2.2.toNat]?.map TblS.first).getD 0) + (q[h.2.1.toNat]?.getD 0)
noncomputable def visN (m : ModS) (st : List Int) : Nat → Int → Bool
 | 0, _ => false
 | n + 1, c => decide (1 ≤ st[c.toNat]?.getD 0) && match tupF m.sorts m.tables true c with
  | some (i, q) => m.hides.all fun h => !(decide (h.1 = i)) || visN m st n (hcell m q h)
  | none => true
def Wlk (hs : List (Int × Int × Int)) : Nat → Int → Prop
 | 0, _ => True
 | n + 1, a => ∃ h ∈ hs, h.1 = a ∧ Wlk hs n h.2.2
theorem wlk_no {m : ModS} (hx : HidX m) (a : Int) : ¬ Wlk m.hides (m.tables.length + 1) a := by
 intro hw
 -- the walk's nodes
 have key : ∀ (n : Nat) (a : Int), Wlk m.hides n a → ∃ f : Nat → Int, f 0 = a ∧ ∀ i, i < n → ∃ h ∈ m.hides, h.1 = f i ∧ h.2.2 = f (i + 1) := by
  intro n
  induction n with
  | zero => exact fun a _ => ⟨fun _ => a, rfl, fun i h => by omega⟩
  | succ n ih =>
   rintro a ⟨h, h1, h2, h3⟩
   obtain ⟨f, f1, f2⟩ := ih _ h3
   refine ⟨fun i => match i with | 0 => a|i + 1 => f i, rfl, fun i hi => ?_⟩
   match i with
   | 0 => exact ⟨h, h1, h2, f1.symm⟩
   | i + 1 => exact f2 i (by omega)
 obtain ⟨f, _, hf⟩ := key _ a hw
 have hin : ∀ i, i < m.tables.length + 1 → 0 ≤ f i ∧ f i < m.tables.length := fun i hi => by
  obtain ⟨h, h1, h2, _⟩ := hf i hi
  obtain ⟨j, hj⟩ := List.getElem?_of_mem h1
  obtain ⟨j1, j2, j3, t, u, x, e1, e2, _⟩ := hx.i j h hj
  have := (List.getElem?_eq_some_iff.1 e2).1
  omega
 have hpig : ∃ i j, i < j ∧ j < m.tables.length + 1 ∧ f i = f j := by
  refine Classical.byContradiction fun hno => ?_
  have hnd : ((List.range (m.tables.length + 1)).map f).Nodup := by
   refine List.pairwise_iff_getElem.2 fun i j hi hj hij he => ?_
   simp only [List.length_map, List.length_range] at hi hj
   simp only [List.getElem_map, List.getElem_range] at he
   exact hno ⟨i, j, hij, by omega, he⟩
  have := List.Nodup.length_le_of_subset hnd (l₂ := (List.range m.tables.length).map Int.ofNat) fun q hq => by
   obtain ⟨i, hi, rfl⟩ := List.mem_map.1 hq
   have := hin i (List.mem_range.1 hi)
   exact List.mem_map.2 ⟨(f i).toNat, List.mem_range.2 (by omega), Int.toNat_of_nonneg (by omega)⟩
  simp only [List.length_map, List.length_range] at this
  omega
 obtain ⟨i, j, hij, hj, he⟩ := hpig
 have hlead : ∀ d i, i + d < m.tables.length + 1 → Leads m.hides d (f i) (f (i + d)) := by
  intro d
  induction d with
  | zero => intro i _;rfl
  | succ d ih =>
   intro i hi
   obtain ⟨h, h1, h2, h3⟩ := hf i (by omega)
   obtain ⟨q, hq⟩ := List.getElem?_of_mem h1
   refine .inr ⟨q, h, hq, h2, ?_⟩
   rw [h3, show i + (d + 1) = i + 1 + d by omega]
   exact ih (i + 1) (by omega)
 obtain ⟨h, h1, h2, h3⟩ := hf i (by omega)
 obtain ⟨q, hq⟩ := List.getElem?_of_mem h1
 refine hx.a q h hq ?_
 rw [h2, h3, he]
 have := hlead (j - (i + 1)) (i + 1) (by omega)
 rw [show i + 1 + (j - (i + 1)) = j by omega] at this
 exact leads_le (by omega) this
theorem hcell_ok {m : ModS} (hl : LayX m.sorts m.tables) (hx : HidX m) {c : Int} {i : Nat} {t : TblS} (ht : m.tables[i]? = some t) (hk : 0 ≤ c - t.first) {h : Int × Int × Int} (hm : h ∈ m.hides) (hi : h.1 = i) :
  ∃ (j2 j3 : Nat) (u : TblS) (x y : Int), h.2.2 = j2 ∧ m.tables[j2]? = some u ∧ isStrict u.kind ∧ u.cols = [x] ∧ h.2.1 = j3 ∧ t.cols[j3]? = some x ∧ (nthF m.sorts t.cols (c - t.first)).1[j3]? = some y ∧ 0 ≤ y ∧ y < numF m.sorts u.cols ∧ hcell m (nthF m.sorts t.cols (c - t.first)).1 h = u.first + y ∧ tupF m.sorts m.tables true (u.first + y) = some (j2, [y]) ∧ (∃ z, m.sorts[x.toNat]? = some z ∧ y < z) ∧ ColOK m.sorts [x] := by
 obtain ⟨p, hp⟩ := List.getElem?_of_mem hm
 obtain ⟨j1, j2, j3, t', u, x, e1, e2, e3, e4, e5, e6, e7, e8, e9, e10⟩ := hx.i p h hp
 obtain rfl : j1 = i := by omega
 rw [ht] at e2;cases e2
 have hu := (hl.t j2 u e4).ok.1
 rw [e10] at hu
 have hxm := hu.2.2 x (by simp)
 obtain ⟨z, hz⟩ := get_of (l := m.sorts) (i := x.toNat) (by omega)
 obtain ⟨y, hy⟩ := get_of (l := (nthF m.sorts t.cols (c - t.first)).1) (i := j3) (by rw [nthF_len];exact (List.getElem?_eq_some_iff.1 e9).1)
 obtain ⟨y1, y2⟩ := nth_rng hl.so hk t.cols j3 x y e9 hy
 have y2 := y2 z hz
 have hstr : isStrict u.kind := .inl e7
 have hn := num_one hu hz
 have htu := tup_rel hl e4 (s := true) (decide_eq_true hstr) (k := y) ⟨y1, by rw [e10, hn];exact y2⟩
 rw [e10, nth_one hz ⟨y1, y2⟩] at htu
 refine ⟨j2, j3, u, x, y, e3, e4, hstr, e10, e8, e9, hy, y1, by rw [e10, hn];exact y2, ?_, htu, ⟨z, hz, y2⟩, hu⟩
 rw [hcell, e3, e8, Int.toNat_natCast, Int.toNat_natCast, e4, hy];rfl
theorem cell_lt {m : ModS} (hl : LayX m.sorts m.tables) {i : Nat} {u : TblS} (hu : m.tables[i]? = some u) (hs : isStrict u.kind) {y : Int} (hy : y < numF m.sorts u.cols) : u.first + y < (strF m : Nat) := by
 rw [strF_sum hl.ok, (hl.t i u hu).fs, decide_eq_true hs]
 have h1 := sumK_succ (sizes := m.sorts) (s := true) hu
 rw [if_pos (decide_eq_true hs)] at h1
 have h2 := sumK_mono (sizes := m.sorts) (s := true) (l := m.tables) (show i + 1 ≤ m.tables.length from (List.getElem?_eq_some_iff.1 hu).1)
 rw [List.take_length] at h2
 omega
theorem all_cong {α : Type} {l : List α} {f g : α → Bool} (h : ∀ x ∈ l, f x = g x) : l.all f = l.all g := by
 induction l with
 | nil => rfl
 | cons a l ih => rw [List.all_cons, List.all_cons, h a (by simp), ih fun x hx => h x (by simp [hx])]
theorem vis_stab {m : ModS} (hl : LayX m.sorts m.tables) (hx : HidX m) (st : List Int) : ∀ (n : Nat) (c : Int) (i : Nat) (q : List Int), tupF m.sorts m.tables true c = some (i, q) → ¬ Wlk m.hides (n + 1) i → ∀ k, n + 1 ≤ k → visN m st k c = visN m st (n + 1) c := by
 intro n
 induction n with
 | zero =>
  intro c i q hq hw k hk
  obtain ⟨k, rfl⟩ := Nat.exists_eq_add_of_le hk
  rw [show 0 + 1 + k = k + 1 by omega]
  simp only [visN, hq]
  congr 1
  refine all_cong fun h hm => ?_
  have : ¬ h.1 = i := fun e => hw ⟨h, hm, e, trivial⟩
  simp [this]
 | succ n ih =>
  intro c i q hq hw k hk
  obtain ⟨k, rfl⟩ := Nat.exists_eq_add_of_le hk
  rw [show n + 1 + 1 + k = n + 1 + k + 1 by omega]
  rw [visN, visN]
  simp only [hq]
  congr 1
  refine all_cong fun h hm => ?_
  by_cases he : h.1 = i
  ·obtain ⟨i', t, ht, hc⟩ : ∃ i' t, m.tables[i']? = some t ∧ i' = i ∧ 0 ≤ c - t.first ∧ q = (nthF m.sorts t.cols (c - t.first)).1 := by
    unfold tupF at hq
    split at hq
    ·rename_i h0
     obtain ⟨j, hj, hj2⟩ := Option.bind_eq_some_iff.1 hq
     obtain ⟨t, ht, ht2⟩ := Option.map_eq_some_iff.1 hj2
     simp only [Prod.mk.injEq] at ht2
     obtain ⟨rfl, rfl⟩ := ht2
     unfold tabF at hj
     obtain ⟨w, hw2, _⟩ := List.findIdx?_eq_some_iff_getElem.1 hj
     rw [List.getElem?_eq_getElem w] at ht
     rw [Option.some.inj ht] at hw2
     exact ⟨j, t, by rw [List.getElem?_eq_getElem w];exact ht, rfl, (of_decide_eq_true hw2).2.1, rfl⟩
    ·cases hq
   obtain ⟨rfl, h0, rfl⟩ := hc
   obtain ⟨j2, j3, u, x, y, e1, e2, e3, e4, e5, e6, e7, e8, e9, e10, e11, _⟩ := hcell_ok hl hx ht h0 hm he
   have hw2 : ¬ Wlk m.hides (n + 1) (j2 : Int) := fun h9 => hw ⟨h, hm, he, by rw [e1];exact h9⟩
   rw [e10, ih (u.first + y) j2 [y] e11 hw2 (n + 1 + k) (by omega)]
  ·simp [he]
end Go.Proofs.YtmjllbjfkafhdaaGreatDoor
namespace Go.Proofs.YtmjllbjfkafhdaaGreatDoor
open Go Go.CF
set_option maxRecDepth 20000
theorem ccount_g (sizes : List Int) (l : List TblS) (s : Bool) : CallGP Tryz.prog 234 [ints sizes, tbls l, .val (.bool s)] (it ((rngF sizes s l).length : Nat)) := by
 have h := cranges_g sizes l s
 refine CallG.of pg ord234 Tryz.func234 rfl Tryz.ntmps234 Tryz.results234 rfl fun h0 G0 O0 ga => ?_
 repeat' (first|refine Sp.h ?_|refine Lk.r rfl ?_|refine Rf.mk rfl ?_|refine Im.mk fun _=>?_|refine xN ?_|(apply Cl.pG (h);(focus exact ga);focus (repeat' constructor);done))
 exact Fin.p rfl rfl
def FitX (m : ModS) (st : List Int) : Prop := ValX m ∧ st.length = strF m
noncomputable instance (m : ModS) (st : List Int) : Decidable (FitX m st) := Classical.propDecidable _
theorem sfits_g (m : ModS) (st : List Int) (hol : m.ops.length ≤ 1000000000) (hur : UpdsRg m) : CallGP Tryz.prog 194 [mdl m, ints st] (.val (.bool (decide (FitX m st)))) := by
 have hv := mvalid_g m hol hur
 have hc := ccount_g m.sorts m.tables true
 refine CallG.of pg ord194 Tryz.func194 rfl Tryz.ntmps194 Tryz.results194 rfl fun h0 G0 O0 ga => ?_
 by_cases hx : ValX m
 ·have hl : (rngF m.sorts true m.tables).length = strF m := strR_len hx.lay
  rw [decide_eq_true hx] at hv
  rw [hl] at hc
  repeat' (first|refine Sp.h ?_|refine Lk.r rfl ?_|refine Rf.mk rfl ?_|refine Im.mk fun _=>?_|refine All.mk fun _=>?_|refine xT ?_|refine Ch.l ⟨rfl, rfl⟩ ?_|refine xN ?_|(apply Cl.pG (hv);(focus exact ga);focus (repeat' constructor);done)|(apply Cl.pG (hc);(focus exact ga);focus (repeat' constructor);done))
  all_goals exact Fin.p rfl (vb (by first|exact (decide_eq_decide.2 ⟨fun h => ⟨hx, by omega⟩, fun h => by have := h.2;omega⟩).symm|exact decide_eq_decide.2 ⟨fun h => ⟨hx, by omega⟩, fun h => by have := h.2;omega⟩))
 ·rw [decide_eq_false hx] at hv
  rw [decide_eq_false fun h : FitX m st => hx h.1]
  repeat' (first|refine Sp.h ?_|refine Lk.r rfl ?_|refine Rf.mk rfl ?_|refine All.mk fun _=>?_|refine xT ?_|refine Ch.l ⟨rfl, rfl⟩ ?_|refine xN ?_|(apply Cl.pG (hv);(focus exact ga);focus (repeat' constructor);done)|(apply Cl.pG (hc);(focus exact ga);focus (repeat' constructor);done))
  exact Fin.p rfl rfl
set_option maxHeartbeats 2000000 in
theorem ccell_g (sizes : List Int) (l : List TblS) (j : Nat) (u : TblS) (x z y : Int) (hl : LayX sizes l) (hu : l[j]? = some u) (hc : u.cols = [x]) (hz : sizes[x.toNat]? = some z) (hx : 0 ≤ x) (hy : 0 ≤ y) (hyz : y < z) : CallGP Tryz.prog 197 [ints sizes, tbls l, it j, ints [y]] (.tup [it (u.first + y), it 0]) := by
 have hv := cvalid_g sizes l
 rw [decide_eq_true hl] at hv
 have hf := hl.first hu
 have hs := hl.so z (List.mem_of_getElem? hz)
 have hjl := (List.getElem?_eq_some_iff.1 hu).1
 have hcl : u.cols.length = 1 := by rw [hc];rfl
 have hc0 : u.cols[0]? = some x := by rw [hc];rfl
 obtain ⟨xn, rfl⟩ := Int.eq_ofNat_of_zero_le hx
 rw [Int.toNat_natCast] at hz
 have hq1 : ([y] : List Int).length = 1 := rfl
 have hq0 : ([y] : List Int)[0]? = some y := rfl
 generalize ([y] : List Int) = q at hq1 hq0 ⊢
 refine CallG.of pg ord197 Tryz.func197 rfl Tryz.ntmps197 Tryz.results197 rfl fun h0 G0 O0 ga => ?_
 repeat' (first|refine Sp.h ?_|refine Lk.r rfl ?_|refine Rf.mk rfl ?_|refine xA ?_|refine xB ?_|refine Im.mk fun _=>?_|refine All.mk fun _=>?_|refine xT ?_|refine xI ?_|refine Ch.l ⟨rfl, rfl⟩ ?_|(apply SetAsk.r;focus repeat' constructor)|refine xN ?_|(apply Cl.pG (hv);(focus exact ga);focus (repeat' constructor);done))
 all_goals try exact (by omega : False).elim
 rename_i b10 _ _ _
 refine CA.loop (fun i : Nat => ⟨[(0, ints sizes), (1, tbls l), (3, ints q), (10, pm b10), (11, it (if i = 0 then 0 else y)), (36, ints q), (37, it (q.length : Nat)), (38, it i)], [blkR b10 150 (tblC u)]⟩) (fun i => i ≤ 1) (fun i => 1 - i) 0 xE (Nat.zero_le _) ?_
 intro i hi
 match i, hi with
 | 0, _ =>
  simp only [if_true]
  repeat' (first|refine Sp.h ?_|refine Lk.r rfl ?_|refine Rf.mk rfl ?_|refine xA ?_|refine xB ?_|refine xP ?_|refine xT ?_|refine xI ?_|refine xO ?_|fail)
  all_goals try exact (by omega : False).elim
  refine PA.lp 1 ?_ ⟨Nat.le_refl _, by omega⟩
  rw [show (0 : Int) * z + y = y by omega]
  exact xE
 | 1, _ =>
  simp only [Nat.one_ne_zero, if_false]
  repeat' (first|refine Sp.h ?_|refine Lk.r rfl ?_|refine Rf.mk rfl ?_|refine xB ?_|refine xT ?_|refine xN ?_|refine xO ?_|fail)
  all_goals try exact (by omega : False).elim
  exact ⟨_, _, .tup (.same (.same (.z))), rfl, rfl⟩
end Go.Proofs.YtmjllbjfkafhdaaGreatDoor
namespace Go.Proofs.YtmjllbjfkafhdaaGreatDoor
open Go Go.CF
set_option maxRecDepth 20000
instance {a b : Value} : Flat (.tup [.val a, .val b]) := ⟨fun h h' G G' v hr => by
 obtain ⟨vs, e, r⟩ := hr
 match vs, r with
 | [x, y], ⟨r1, r2, _⟩ => exact ⟨[x, y], e, r1, r2, trivial⟩⟩
noncomputable def visF (m : ModS) (st : List Int) (c : Int) : Bool := visN m st (m.tables.length + 1) c
theorem vis_step {m : ModS} (hl : LayX m.sorts m.tables) (hx : HidX m) (st : List Int) {c : Int} {i : Nat} {t : TblS} (ht : m.tables[i]? = some t) (h0 : 0 ≤ c - t.first) (hq : tupF m.sorts m.tables true c = some (i, (nthF m.sorts t.cols (c - t.first)).1)) :
  visF m st c = (decide (1 ≤ st[c.toNat]?.getD 0) && m.hides.all fun h => !(decide (h.1 = i)) || visF m st (hcell m (nthF m.sorts t.cols (c - t.first)).1 h)) := by
 unfold visF
 rw [visN, hq]
 simp only
 congr 1
 refine all_cong fun h hm => ?_
 by_cases he : h.1 = i
 ·obtain ⟨j2, j3, u, x, y, e1, e2, e3, e4, e5, e6, e7, e8, e9, e10, e11, _⟩ := hcell_ok hl hx ht h0 hm he
  have hw : ¬ Wlk m.hides m.tables.length (j2 : Int) := fun h9 => wlk_no hx i ⟨h, hm, he, by rw [e1];exact h9⟩
  have hp : 0 < m.tables.length := by have := (List.getElem?_eq_some_iff.1 ht).1;omega
  obtain ⟨n, hn⟩ : ∃ n, m.tables.length = n + 1 := ⟨m.tables.length - 1, by omega⟩
  have hs := vis_stab hl hx st n (u.first + y) j2 [y] e11 (by rw [← hn];exact hw) (n + 1 + 1) (by omega)
  rw [e10, hn, hs]
 ·simp [he]
abbrev bF : Bool → AV := fun b => bl b
def KvV (m : ModS) (st : List Int) (kvs : List (List Int × Bool)) : Prop := ∀ c v, lookL kvs [c] = some v → v = visF m st c
abbrev visA (m : ModS) (st : List Int) (b5 b6 : Nat) : AV := .fn 195 [pm b5, .ad (modC m) 0, .ad [ints st] 0, pm b6]
abbrev visO (m : ModS) (st : List Int) (b5 b6 M : Nat) (kvs : List (List Int × Bool)) : List Res := [blkR b5 254 [.val (.map (some M))], mapR Tryz.prog M 3 kvs bF, blkR b6 184 [visA m st b5 b6]]
set_option maxHeartbeats 8000000 in
theorem visible1_g (m : ModS) (st : List Int) (hx : ValX m) (hst : st.length = strF m) (b5 b6 M : Nat) : ∀ (n : Nat) (c : Int) (i : Nat) (t : TblS), m.tables[i]? = some t → 0 ≤ c - t.first → 0 ≤ c → c < (strF m : Nat) → tupF m.sorts m.tables true c = some (i, (nthF m.sorts t.cols (c - t.first)).1) → ¬ Wlk m.hides n i → ∀ kvs, KvV m st kvs →
  CallG Tryz.prog 195 [it c, pm b5, .ad (modC m) 0, .ad [ints st] 0, pm b6] (visO m st b5 b6 M kvs) fun r o => r = bl (visF m st c) ∧ ∃ kvs', KvV m st kvs' ∧ o = visO m st b5 b6 M kvs' := by
 intro n
 induction n with
 | zero => exact fun c i t _ _ _ _ _ hw => absurd trivial hw
 | succ n ih =>
  intro c i t ht h0 hc hcs hq hw kvs hkv
  have hstep := vis_step hx.lay hx.hid st ht h0 hq
  have htup := ctuple_g m.sorts m.tables true c (by have := rngF_len (sizes := m.sorts) (l := m.tables) (s := true);have : (strR m).length = strF m := strR_len hx.lay;change (rngF m.sorts true m.tables).length = _ at this;omega)
  rw [hq] at htup
  change CallGP _ _ _ (.tup [it i, ints (nthF m.sorts t.cols (c - t.first)).1, bl true]) at htup
  obtain ⟨cn, rfl⟩ := Int.eq_ofNat_of_zero_le hc
  obtain ⟨x, hxx⟩ := get_of (l := st) (i := cn) (by omega)
  rw [Int.toNat_natCast, hxx, Option.getD_some] at hstep
  cases hlk : lookL kvs [(cn : Int)] with
  | some v =>
   have hv := hkv _ v hlk
   refine CallG.of pg ord195 Tryz.func195 rfl Tryz.ntmps195 Tryz.results195 rfl fun h0 G0 O0 ga => ?_
   repeat' (first|refine Sp.h ?_|refine Lk.r rfl ?_|refine Rf.mk rfl ?_|refine xT ?_|refine xN ?_|(apply Kf.mk;(focus kernel_rfl))|refine xM ?_|(apply LkM.s;(focus first|assumption|rfl))|fail)
   exact ⟨_, _, .one (.same (.z)), by rw [hv], kvs, hkv, rfl⟩
  | none =>
   have hho := fun (h : Int × Int × Int) (hm : h ∈ m.hides) (he : h.1 = i) => hcell_ok hx.lay hx.hid ht h0 hm he
   generalize (nthF m.sorts t.cols ((cn : Int) - t.first)).1 = q at hq htup hstep hho
   refine CallG.of pg ord195 Tryz.func195 rfl Tryz.ntmps195 Tryz.results195 rfl fun h0 G0 O0 ga => ?_
   repeat' (first|refine Sp.h ?_|refine Lk.r rfl ?_|refine Rf.mk rfl ?_|refine Im.mk fun _=>?_|refine xT ?_|refine xI ?_|(apply Kf.mk;(focus kernel_rfl))|refine xM ?_|(apply Zx.b;(focus rfl))|(apply LkM.n;(focus first|assumption|rfl))|(apply Cl.pG (htup);(focus exact ga);focus (repeat' constructor);done))
   refine CA.loop (fun z : Nat × List (List Int × Bool) × Bool => ⟨[(0, it cn), (1, pm b5), (2, .ad (modC m) 0), (3, .ad [ints st] 0), (4, pm b6), (9, it i), (10, ints q), (12, bl z.2.2), (41, hidesA m.hides), (42, it (m.hides.length : Nat)), (43, it z.1)], visO m st b5 b6 M z.2.1⟩)
    (fun z => z.1 ≤ m.hides.length ∧ KvV m st z.2.1 ∧ z.2.2 = (decide (1 ≤ x) && (m.hides.take z.1).all fun h => !decide (h.1 = i) || visF m st (hcell m q h))) (fun z => m.hides.length - z.1) (0, kvs, decide (1 ≤ x)) xE ⟨Nat.zero_le _, hkv, by simp⟩ ?_
   rintro ⟨k, kvs2, v⟩ ⟨hk, hkv2, hv⟩
   simp only at hk hkv2 hv
   simp only
   by_cases hkn : k < m.hides.length
   ·obtain ⟨⟨g1, g2, g3⟩, hg⟩ := get_of hkn
    have hnext : ∀ v', v' = (v && (!decide (g1 = (i : Int)) || visF m st (hcell m q (g1, g2, g3)))) → v' = (decide (1 ≤ x) && (m.hides.take (k + 1)).all fun h => !decide (h.1 = i) || visF m st (hcell m q h)) := fun v' e => by
     rw [e, hv, List.take_add_one, hg, List.all_append]
     simp [Bool.and_assoc]
    by_cases hcase : v = true ∧ g1 = i
    ·obtain ⟨rfl, rfl⟩ := hcase
     obtain ⟨j2, j3, u, xx, y, e1, e2, e3, e4, e5, e6, e7, e8, e9, e10, e11, ⟨z, e12, e13⟩, e14⟩ := hho _ (List.mem_of_getElem? hg) rfl
     simp only at e1 e5
     subst e1;subst e5
     have hxx0 := (e14.2.2 xx (by simp)).1
     have hf := hx.lay.first e2
     have hce := ccell_g m.sorts m.tables j2 u xx z y hx.lay e2 e4 e12 hxx0 e8 e13
     have htr := tup_rel hx.lay e2 (s := true) (decide_eq_true e3) (k := y) ⟨e8, e9⟩
     have hih := ih (u.first + y) j2 u e2 (by omega) (by omega) (cell_lt hx.lay e2 e3 e9) (by rw [show u.first + y - u.first = y by omega];exact htr) (fun h9 => hw ⟨_, List.mem_of_getElem? hg, rfl, h9⟩) kvs2 hkv2
     rw [e10] at hnext
     simp only [decide_true, Bool.not_true, Bool.false_or, Bool.true_and] at hnext
     repeat' (first|refine Sp.h ?_|refine Lk.r rfl ?_|refine Rf.mk rfl ?_|refine xA ?_|refine OpK.r rfl ?_|refine All.mk fun _=>?_|refine xT ?_|refine xI ?_|refine Ch.l ⟨rfl, rfl⟩ ?_|(apply SetAsk.r;focus repeat' constructor)|(apply Fk.r;focus repeat' first|infer_instance|constructor)|refine xN ?_|refine Rf.mk ⟨rfl, rfl, rfl⟩ ?_|refine xD ?_|fail)
     all_goals try exact (by omega : False).elim
     (apply Cl.lendG (hce);(focus exact ga);(focus repeat' (first|exact Lend.nil|apply Lend.keep|(apply Lend.lendm;(focus repeat constructor);(focus rfl);(focus first|omega|decide|(simp;omega)|exact Nat.le_of_ble_eq_true rfl))|fail)))
     repeat' (first|refine Sp.h ?_|refine Lk.r rfl ?_|refine Rf.mk rfl ?_|refine OpK.r rfl ?_|refine xT ?_|fail)
     (apply Cl.useG (hih);(focus exact ga);(focus repeat' constructor);(focus repeat' constructor);focus rfl)
     rintro _ _ ⟨rfl, kvs3, hkv3, rfl⟩
     repeat' (first|refine Sp.h ?_|refine Lk.r rfl ?_|refine Rf.mk rfl ?_|refine xO ?_|fail)
     exact PA.lp (k + 1, kvs3, visF m st (u.first + y)) xE ⟨⟨hkn, hkv3, hnext _ rfl⟩, by simp only;omega⟩
    ·have hgo := hnext v (by
      cases v
      ·rfl
      ·have : ¬ g1 = i := fun e => hcase ⟨rfl, e⟩
       simp [this])
     repeat' (first|refine Sp.h ?_|refine Lk.r rfl ?_|refine Rf.mk rfl ?_|refine xA ?_|refine xB ?_|(refine Bd.mk ?_ ?_ <;> intro _)|refine OpK.r rfl ?_|refine All.mk fun _=>?_|refine xT ?_|refine xI ?_|refine Ch.l ⟨rfl, rfl⟩ ?_|(apply SetAsk.r;focus repeat' constructor)|refine xN ?_|refine xD ?_|refine xO ?_|fail)
     all_goals first
      | exact (hcase ⟨by assumption, by omega⟩).elim
      | exact PA.lp (k + 1, kvs2, v) xE ⟨⟨hkn, hkv2, hgo⟩, by simp only;omega⟩
   ·have hke : k = m.hides.length := by omega
    subst hke
    rw [List.take_length, ← hstep] at hv
    subst hv
    repeat' (first|refine Sp.h ?_|refine Lk.r rfl ?_|refine Rf.mk rfl ?_|refine xB ?_|refine xT ?_|refine xN ?_|(apply Kf.mk;(focus kernel_rfl))|refine xM ?_|refine UpV.r rfl ?_|fail)
    refine ⟨_, _, .one (.same (.z)), rfl, _, fun c v hcv => ?_, rfl⟩
    rw [lookL_upd] at hcv
    by_cases hc9 : ([c] : List Int) = [(cn : Int)]
    ·rw [if_pos hc9] at hcv
     cases hcv
     simp only [List.cons.injEq, and_true] at hc9
     rw [hc9]
    ·rw [if_neg hc9] at hcv
     exact hkv2 c v hcv
end Go.Proofs.YtmjllbjfkafhdaaGreatDoor
namespace Go.Proofs.YtmjllbjfkafhdaaGreatDoor
open Go Go.CF
set_option maxRecDepth 20000
noncomputable def visL (m : ModS) (st : List Int) : List Bool := (List.range st.length).map fun c => visF m st (c : Nat)
set_option maxHeartbeats 8000000 in
theorem svisible_g (m : ModS) (st : List Int) (hx : ValX m) (hst : st.length = strF m) (hol : m.ops.length ≤ 1000000000) (hur : UpdsRg m) : CallGP Tryz.prog 137 [mdl m, ints st] (bools (visL m st)) := by
 have hft := sfits_g m st hol hur
 rw [decide_eq_true (show FitX m st from ⟨hx, hst⟩)] at hft
 have hl128 : st.length ≤ 128 := by
  have h1 : (strR m).length = strF m := strR_len hx.lay
  have h2 := rngF_len (sizes := m.sorts) (l := m.tables) (s := true)
  change (strR m).length ≤ 128 at h2
  omega
 refine CallG.of pg ord137 Tryz.func137 rfl Tryz.ntmps137 Tryz.results137 rfl fun h0 G0 O0 ga => ?_
 (repeat' (first|(show CA _ _ (Code.region 1 _ _) _ _;apply Stopped.out)|refine Sp.h ?_|refine Lk.r rfl ?_|refine Rf.mk rfl ?_|refine All.mk fun _=>?_|fail));any_goals apply Stopped.mk
 refine CA.freezeB 2 rfl (by repeat constructor) ?_
 refine CA.freezeB 3 rfl (by repeat constructor) ?_
 repeat' (first|refine Sp.h ?_|refine Lk.r rfl ?_|refine Rf.mk rfl ?_|refine xA ?_|refine Ch.l ⟨rfl, rfl⟩ ?_|(apply Cl.pG (hft);(focus exact ga);focus (repeat' constructor);done))
 refine MkM.r bF ?_
 repeat' (first|refine Sp.h ?_|refine Lk.r rfl ?_|refine Rf.mk rfl ?_|refine Im.mk fun _=>?_|refine All.mk fun _=>?_|refine xT ?_|refine xV ?_|refine xN ?_|fail)
 rename_i M b5 b6 _
 refine CA.nilOwn 7 4 1 boolC rfl fun v => ?_
 refine CA.loop (fun z : Nat × List (List Int × Bool) × Value => ⟨[(3, .ad [ints st] 0), (6, pm b6), (7, .ow z.2.2), (15, ints st), (16, it (st.length : Nat)), (17, it z.1)], arrR z.2.2 4 1 ((List.range z.1).map fun c => visF m st (c : Nat)) boolC :: visO m st b5 b6 M z.2.1⟩)
  (fun z => z.1 ≤ st.length ∧ KvV m st z.2.1) (fun z => st.length - z.1) (0, [], v) xE ⟨Nat.zero_le _, fun c v h => by simp [lookL] at h⟩ ?_
 rintro ⟨i, kvs, v⟩ ⟨hi, hkv⟩
 simp only at hi hkv
 simp only
 by_cases hin : i < st.length
 ·obtain ⟨x, hxx⟩ := get_of hin
  obtain ⟨j, t, ht, hs, h0, h1, hq⟩ := tup_ex (s := true) hx.lay (c := (i : Int)) (by omega) (by rw [← strF_sum hx.lay.ok];omega)
  have hih := visible1_g m st hx hst b5 b6 M (m.tables.length + 1) i j t ht h0 (by omega) (by omega) hq (wlk_no hx.hid j) kvs hkv
  have hsu : (List.range (i + 1)).map (fun c => visF m st (c : Nat)) = (List.range i).map (fun c => visF m st (c : Nat)) ++ [visF m st (i : Nat)] := by rw [List.range_succ, List.map_append];rfl
  repeat' (first|refine Sp.h ?_|refine Lk.r rfl ?_|refine Rf.mk rfl ?_|refine xA ?_|refine xT ?_|fail)
  (apply Cl.useG (hih);(focus exact ga);(focus repeat' constructor);(focus repeat' constructor);focus rfl)
  rintro _ _ ⟨rfl, kvs2, hkv2, rfl⟩
  repeat' (first|refine Sp.h ?_|refine Lk.r rfl ?_|refine Rf.mk rfl ?_|refine xP ?_|refine All.mk fun _=>?_|refine xU ?_|refine Ce.r ?_|(apply Fk.r;focus repeat' first|infer_instance|constructor)|refine Rf.mk ⟨rfl, rfl⟩ ?_|refine Rf.mk ⟨rfl, rfl, rfl⟩ ?_|(apply Mp.lit;(focus repeat (first|exact MpL.nil|(apply MpL.cons;(focus rfl))|(apply MpL.inv;(focus repeat constructor);(focus infer_instance)))))|refine xO ?_|fail)
  rw [← hsu]
  exact PA.lp (i + 1, kvs2, _) xE ⟨⟨hin, hkv2⟩, by simp only;omega⟩
 ·have : i = st.length := by omega
  subst this
  repeat' (first|refine Sp.h ?_|refine Lk.r rfl ?_|refine Rf.mk rfl ?_|refine xB ?_|refine xN ?_|fail)
  exact ⟨_, _, .one (.fz (by repeat constructor) (by have hvl : (visL m st).length = st.length := (by simp [visL]);omega) (.z)), rfl, rfl⟩
end Go.Proofs.YtmjllbjfkafhdaaGreatDoor
namespace Go.Proofs.YtmjllbjfkafhdaaGreatDoor
open Go Go.CF
set_option maxRecDepth 20000
abbrev QryS := Int × Int
def qryC (q : QryS) : List AV := [it q.1, it q.2]
abbrev qrys (l : List QryS) : AV := .sl 2 l qryC
theorem indexQ_p {g : FuncId} {caps : List AV} {p : QryS → Bool} (hg : ∀ e, CallP Tryz.prog g (.agg (qryC e) :: caps) (.val (.bool (p e)))) (he : en g = true) (l : List QryS) :
  CallP Tryz.prog 133 [qrys l, .fn g caps] (it (idxI p l)) := by
 refine CallA.of pg ord133 Tryz.func133 rfl Tryz.ntmps133 Tryz.results133 rfl fun h0 G0 O0 => ?_
 repeat' (first|refine Sp.h ?_|refine Lk.r rfl ?_|refine Rf.mk rfl ?_|refine Im.mk fun _=>?_|fail)
 refine CA.loop (fun i : Nat => ⟨[(0, qrys l), (1, .fn g caps), (7, it (l.length : Nat)), (8, it i)], []⟩)
  (fun i => i ≤ l.length ∧ ∀ j y, j < i → l[j]? = some y → p y = false) (fun i => l.length - i) 0 xE ⟨Nat.zero_le _, fun j y h => by omega⟩ ?_
 rintro i ⟨hi, hj⟩
 by_cases hin : i < l.length
 ·obtain ⟨⟨u0, u1⟩, hx⟩ := get_of hin
  have hge := hg (u0, u1)
  repeat' (first|refine Sp.h ?_|refine Lk.r rfl ?_|refine Rf.mk rfl ?_|refine xA ?_|(refine Bd.mk ?_ ?_ <;> intro _)|refine xI ?_|refine Ch.l ⟨rfl, rfl⟩ ?_|refine xN ?_|(apply Rf.mk;(focus assumption))|refine xO ?_|(apply Cl.p (hge);(focus repeat' (first|apply Lend.keep|fail))))
  ·exact lendAll _
  ·rename_i hp
   exact Fin.p rfl (by rw [idxI, idxN_of hx hp hj, if_pos hin])
  ·rename_i hp
   exact PA.lp (i + 1) xE ⟨⟨hin, alli_succ hx hj (by simpa using hp)⟩, by omega⟩
 ·repeat' (first|refine Sp.h ?_|refine Lk.r rfl ?_|refine Rf.mk rfl ?_|refine xB ?_|refine xN ?_|fail)
  exact Fin.p rfl (by rw [idxI, idxN_none (fun x hx => by obtain ⟨j, hx⟩ := List.getElem?_of_mem hx;exact hj j x (by have := (List.getElem?_eq_some_iff.1 hx).1;omega) hx), if_neg (by omega)])
theorem containsQ_p {g : FuncId} {caps : List AV} {p : QryS → Bool} (hg : ∀ e, CallP Tryz.prog g (.agg (qryC e) :: caps) (.val (.bool (p e)))) (he : en g = true) (l : List QryS) :
  CallP Tryz.prog 59 [qrys l, .fn g caps] (.val (.bool (decide (∃ e ∈ l, p e = true)))) := by
 have hi := indexQ_p hg he l
 refine CallA.of pg ord59 Tryz.func59 rfl Tryz.ntmps59 Tryz.results59 rfl fun h0 G0 O0 => ?_
 repeat' (first|refine Sp.h ?_|refine Lk.r rfl ?_|refine Rf.mk rfl ?_|refine xN ?_|(apply Cl.p (hi);focus repeat' constructor))
 refine Fin.p rfl (vb (decide_eq_decide.2 ?_))
 rw [← idxB_lt]
 unfold idxI
 split <;> omega
abbrev cntf : Int → AV := fun x => it x
def cntKd (s g : Nat) (k : Int) : Int := if k = 0 ∨ k = 1 then s else if k = 2 then g else 0
def cntO (s g : Nat) (k : Int) : Option Int := if k = 0 ∨ k = 1 then some (s : Int) else if k = 2 then some (g : Int) else none
def CntK (kvs : List (List Int × Int)) (s g : Nat) : Prop := ∀ x, lookL kvs [x] = cntO s g x
def QryK (s g : Nat) (q : QryS) : Prop := 0 ≤ q.2 ∧ q.2 < cntKd s g q.1
instance (s g : Nat) (q : QryS) : Decidable (QryK s g q) := by unfold QryK;infer_instance
theorem qclo_p {kvs : List (List Int × Int)} {s g : Nat} (hk : CntK kvs s g) (q : QryS) : CallP Tryz.prog 60 [.agg (qryC q), .ad [.rm Tryz.prog 3 kvs cntf] 0] (.val (.bool (decide (¬ QryK s g q)))) := by
 obtain ⟨q1, q2⟩ := q
 have hk := hk q1
 refine CallA.of pg ord60 Tryz.func60 rfl Tryz.ntmps60 Tryz.results60 rfl fun h0 G0 O0 => ?_
 by_cases h1 : q1 = 0 ∨ q1 = 1
 ·rw [cntO, if_pos h1] at hk
  have hc : cntKd s g q1 = s := by rw [cntKd, if_pos h1]
  repeat' (first|refine Sp.h ?_|refine Lk.r rfl ?_|refine Rf.mk rfl ?_|refine xA ?_|refine xB ?_|(refine Bd.mk ?_ ?_ <;> intro _)|refine All.mk fun _=>?_|refine xT ?_|refine xN ?_|(apply Kf.mk;(focus kernel_rfl))|(apply LkM.s;(focus first|assumption|rfl))|fail)
  all_goals exact Fin.p rfl (vb (by unfold QryK;simp only [hc];first|exact (decide_eq_true (by omega)).symm|exact (decide_eq_false (by omega)).symm|exact decide_eq_decide.2 (by omega)))
 ·by_cases h2 : q1 = 2
  ·rw [cntO, if_neg h1, if_pos h2] at hk
   have hc : cntKd s g q1 = g := by rw [cntKd, if_neg h1, if_pos h2]
   repeat' (first|refine Sp.h ?_|refine Lk.r rfl ?_|refine Rf.mk rfl ?_|refine xA ?_|refine xB ?_|(refine Bd.mk ?_ ?_ <;> intro _)|refine All.mk fun _=>?_|refine xT ?_|refine xN ?_|(apply Kf.mk;(focus kernel_rfl))|(apply LkM.s;(focus first|assumption|rfl))|fail)
   all_goals exact Fin.p rfl (vb (by unfold QryK;simp only [hc];first|exact (decide_eq_true (by omega)).symm|exact (decide_eq_false (by omega)).symm|exact decide_eq_decide.2 (by omega)))
  ·rw [cntO, if_neg h1, if_neg h2] at hk
   have hc : cntKd s g q1 = 0 := by rw [cntKd, if_neg h1, if_neg h2]
   repeat' (first|refine Sp.h ?_|refine Lk.r rfl ?_|refine Rf.mk rfl ?_|refine xA ?_|refine xB ?_|(refine Bd.mk ?_ ?_ <;> intro _)|refine All.mk fun _=>?_|refine xT ?_|refine xN ?_|(apply Kf.mk;(focus kernel_rfl))|(apply Zx.i;(focus rfl))|(apply LkM.n;(focus first|assumption|rfl))|fail)
   all_goals exact Fin.p rfl (vb (by unfold QryK;simp only [hc];first|exact (decide_eq_true (by omega)).symm|exact (decide_eq_false (by omega)).symm|exact decide_eq_decide.2 (by omega)))
theorem lendS_map {o r2 r3 : List Res} {P : Program} {b7 M : Nat} {T2 kt : TypeId} {β : Type} {kvs : List (List Int × β)} {f : β → AV} {a : AV} {g : FuncId}
  (t2 : Take o (blkR b7 T2 [.val (.map (some M))]) r2) (t3 : Take o (mapR P M kt kvs f) r3) :
  LendS o [a, .fn g [pm b7]] [a, .fn g [.ad [.rm P kt kvs f] 0]] := ⟨fun {h G Os vs} ho hr => by
 match vs, hr with
 | [v1, v2], ⟨h1, ⟨us, h2, h3⟩, _⟩ =>
  match us, h3 with
  | [u2], ⟨g2, _⟩ =>
   have g2 : u2 = _ := g2
   subst g2
   refine ⟨AV.mono _ (fun _ => .inl) h1, ⟨_, h2, ?_, trivial⟩, trivial⟩
   obtain ⟨O, os', ⟨g0, ws, gb, gr⟩, _, g3⟩ := t2.own ho
   obtain ⟨O3, os3, ⟨q0, es, cl, q1, q2, q3, _⟩, _, q4⟩ := t3.own ho
   refine ⟨b7, 0, ws, rfl, .inr ⟨O, g3.mem_iff.2 (by simp), (g0 _).2 rfl⟩, gb.lt, gb.cels0, ?_, gr.one⟩
   match ws, gr.t with
   | [w], ⟨e1, _⟩ =>
    exact ⟨⟨M, es, cl, e1, .inr ⟨O3, q4.mem_iff.2 (by simp), (q0 _).2 rfl⟩, (Array.getElem?_eq_some_iff.1 q1).1, q1, q2, fun i e p k1 k2 => AV.mono _ (fun _ => .inl) (q3 i e p k1 k2)⟩, trivial⟩⟩
def QrysX (m : ModS) (l : List QryS) : Prop := ValX m ∧ ∀ q ∈ l, QryK (rgsF m true).length (rgsF m false).length q
noncomputable instance (m : ModS) (l : List QryS) : Decidable (QrysX m l) := Classical.propDecidable _
end Go.Proofs.YtmjllbjfkafhdaaGreatDoor
namespace Go.CF
open Go
structure Dag (S : Type) where
 lst : S → Array Bool
 rk : S → Nat
 pu : S → Option Nat
 rd : S → List Nat
 to : S → Nat → S
def Dag.tree {S : Type} (D : Dag S) : Nat → S → Ord
 | 0, _ => .done
 | n + 1, s => match D.pu s with
  | some i => .one i (D.tree n (D.to s i))
  | none => match D.rd s with
   | [] => .done
   | i :: l => .alt i (D.tree n (D.to s i)) (altsT (fun i => D.tree n (D.to s i)) l)
def Dag.moves {S : Type} (D : Dag S) (s : S) : List Nat := match D.pu s with
 | some i => [i]
 | none => D.rd s
def isPureC : Cls → Bool | .pure => true|_ => false
def Dag.okS {S : Type} [BEq S] (D : Dag S) (ops : Array Oper) (cl : Nat → Cls) (all : List S) (s : S) : Bool :=
 (match D.pu s with
 | some i => isPureC (cl i) && (Region.ready .any ops (D.lst s)).contains i && Region.free .any ops (D.lst s) i && ((D.lst s).setIfInBounds i true == D.lst (D.to s i)) && all.contains (D.to s i) && Nat.beq (D.rk (D.to s i) + 1) (D.rk s)
 | none => Region.ready .any ops (D.lst s) == D.rd s && (D.rd s).all fun i => acts (cl i) && ((D.lst s).setIfInBounds i true == D.lst (D.to s i)) && all.contains (D.to s i) && Nat.beq (D.rk (D.to s i) + 1) (D.rk s)) &&
 (Nat.blt 0 (D.rk s) || ((D.pu s).isNone && (D.rd s).isEmpty))
section
variable {S : Type} [BEq S] [LawfulBEq S] {D : Dag S} {ops : Array Oper} {cl : Nat → Cls} {all : List S}
theorem Dag.chk (h : all.all (D.okS ops cl all) = true) : ∀ (n : Nat) (s : S), s ∈ all → D.rk s = n → chkG ops cl (D.tree n s) n true (D.lst s) = true := by
 intro n
 induction n with
 | zero =>
  intro s hs hn
  have h1 := List.all_eq_true.1 h s hs
  unfold Dag.okS at h1
  rw [hn] at h1
  simp only [Bool.and_eq_true, Bool.or_eq_true] at h1
  obtain ⟨h1, h2⟩ := h1
  rcases h2 with h2|⟨h2, h3⟩
  ·exact absurd h2 (by decide)
  ·rw [Option.isNone_iff_eq_none] at h2
   rw [List.isEmpty_iff] at h3
   rw [h2] at h1
   simp only [Bool.and_eq_true, h3] at h1
   have h4 : Region.ready .any ops (D.lst s) = [] := eq_of_beq h1.1
   simp [Dag.tree, chkG, h4]
 | succ n ih =>
  intro s hs hn
  have h1 := List.all_eq_true.1 h s hs
  unfold Dag.okS at h1
  simp only [Bool.and_eq_true] at h1
  obtain ⟨h1, -⟩ := h1
  cases hp : D.pu s with
  | some i =>
   rw [hp] at h1
   simp only [Bool.and_eq_true] at h1
   obtain ⟨⟨⟨⟨⟨a1, a2⟩, a3⟩, a4⟩, a5⟩, a6⟩ := h1
   have a4 := eq_of_beq a4
   have a5 : D.to s i ∈ all := by simpa using a5
   have a6 := Nat.eq_of_beq_eq_true a6
   have hcl : cl i = .pure := by
    revert a1
    cases cl i <;> simp [isPureC]
   simp only [Dag.tree, hp]
   rw [chk_one_eq, oneOK, hcl]
   simp only [a2, a3, Bool.and_self, Bool.true_and]
   rw [a4]
   exact ih _ a5 (by omega)
  | none =>
   rw [hp] at h1
   simp only [Bool.and_eq_true, List.all_eq_true] at h1
   obtain ⟨b1, b2⟩ := h1
   have b1 : Region.ready .any ops (D.lst s) = D.rd s := eq_of_beq b1
   simp only [Dag.tree, hp]
   have sub : ∀ i ∈ D.rd s, acts (cl i) = true ∧ chkG ops cl (D.tree n (D.to s i)) n true ((D.lst s).setIfInBounds i true) = true := fun i hi => by
    obtain ⟨⟨⟨c1, c2⟩, c3⟩, c4⟩ := b2 i hi
    have c2 := eq_of_beq c2
    have c3 : D.to s i ∈ all := by simpa using c3
    have c4 := Nat.eq_of_beq_eq_true c4
    refine ⟨c1, ?_⟩
    rw [c2]
    exact ih _ c3 (by omega)
   cases hr : D.rd s with
   | nil =>
    rw [hr] at b1
    simp [chkG, b1]
   | cons i l =>
    rw [hr] at b1 sub
    simp only [chkG, altsT_heads, b1, beq_self_eq_true, Bool.or_true, Bool.true_and, Bool.and_eq_true]
    exact ⟨sub i (by simp), chk_alts fun j hj => sub j (by simp [hj])⟩
variable {Γ : Cx} {k : List KI} {e : EA} {o : List Res}
omit [BEq S] [LawfulBEq S] in
theorem RA'.sub {t : Ord} (σ : AS) (hs : Sub e o σ) (h : RA' Γ k ops cl t σ.env σ.own) : RA' Γ k ops cl t e o :=
 ⟨fun hd env hh G _ cn => let ⟨Os', c⟩ := cn.sub hs;h.h hd env hh G Os' c⟩
theorem RA'.dag {α : Type} (σ : S → α → AS) (I : S → α → Prop) (h : all.all (D.okS ops cl all) = true)
  (hs : ∀ s ∈ all, ∀ x, I s x → (∀ i ∈ D.moves s, ∀ r, (∀ x', I (D.to s i) x' → RA' Γ k ops cl r (σ (D.to s i) x').env (σ (D.to s i) x').own) → RA' Γ k ops cl (.one i r) (σ s x).env (σ s x).own) ∧
   (D.moves s = [] → PA Γ k .normal (σ s x).env (σ s x).own)) :
  ∀ (n : Nat) (s : S), s ∈ all → D.rk s = n → ∀ x, I s x → RA' Γ k ops cl (D.tree n s) (σ s x).env (σ s x).own := by
 intro n
 induction n with
 | zero =>
  intro s hm hn x hx
  have h1 := List.all_eq_true.1 h s hm
  unfold Dag.okS at h1
  rw [hn] at h1
  simp only [Bool.and_eq_true, Bool.or_eq_true] at h1
  obtain ⟨h1, h2⟩ := h1
  rcases h2 with h2|⟨h2, h3⟩
  ·exact absurd h2 (by decide)
  ·rw [Option.isNone_iff_eq_none] at h2
   rw [List.isEmpty_iff] at h3
   exact (show RA' Γ k ops cl .done (σ s x).env (σ s x).own from Sp.h (s := PA Γ k .normal (σ s x).env (σ s x).own) ((hs s hm x hx).2 (by rw [Dag.moves, h2];exact h3)))
 | succ n ih =>
  intro s hm hn x hx
  have h1 := List.all_eq_true.1 h s hm
  unfold Dag.okS at h1
  simp only [Bool.and_eq_true] at h1
  obtain ⟨h1, -⟩ := h1
  obtain ⟨hs1, hs2⟩ := hs s hm x hx
  cases hp : D.pu s with
  | some i =>
   rw [hp] at h1
   simp only [Bool.and_eq_true] at h1
   obtain ⟨⟨-, a5⟩, a6⟩ := h1
   have a5 : D.to s i ∈ all := by simpa using a5
   have a6 := Nat.eq_of_beq_eq_true a6
   simp only [Dag.tree, hp]
   exact hs1 i (by rw [Dag.moves, hp];exact List.mem_singleton.2 rfl) _ fun x' hx' => ih _ a5 (by omega) x' hx'
  | none =>
   rw [hp] at h1
   simp only [Bool.and_eq_true, List.all_eq_true] at h1
   obtain ⟨-, b2⟩ := h1
   simp only [Dag.tree, hp]
   have sub : ∀ i ∈ D.rd s, RA' Γ k ops cl (.one i (D.tree n (D.to s i))) (σ s x).env (σ s x).own := fun i hi => by
    obtain ⟨⟨-, c3⟩, c4⟩ := b2 i hi
    have c3 : D.to s i ∈ all := by simpa using c3
    have c4 := Nat.eq_of_beq_eq_true c4
    exact hs1 i (by rw [Dag.moves, hp];exact hi) _ fun x' hx' => ih _ c3 (by omega) x' hx'
   cases hr : D.rd s with
   | nil => exact Sp.h (s := PA Γ k .normal (σ s x).env (σ s x).own) (hs2 (by rw [Dag.moves, hp];exact hr))
   | cons i l =>
    rw [hr] at sub
    exact RA'.alts (f := fun i => D.tree n (D.to s i)) (ps := i :: l) fun j hj => sub j hj
end
end Go.CF
namespace Go.Proofs.YtmjllbjfkafhdaaGreatDoor
open Go Go.CF
set_option maxRecDepth 20000
abbrev St12 := Bool × Bool × Nat × Nat × Nat × Nat
def d12 : Dag St12 where
 lst := fun (m, v, a, b, c, f) => #[m, Nat.ble 1 a, Nat.ble 2 a, Nat.ble 3 a, Nat.ble 4 a, Nat.ble 1 b, Nat.ble 2 b, Nat.ble 3 b, Nat.ble 4 b, Nat.ble 1 c, Nat.ble 2 c, Nat.ble 3 c, Nat.ble 4 c, Nat.ble 1 f, v, Nat.ble 2 f]
 rk := fun (m, v, a, b, c, f) => 16 - (m.toNat + v.toNat + a + b + c + f)
 pu := fun (m, _, a, b, c, f) => bif Nat.beq a 2 then some 3 else bif Nat.beq b 2 then some 7 else bif Nat.beq c 2 then some 11 else bif m && Nat.beq a 4 && Nat.beq b 4 && Nat.beq c 4 && Nat.beq f 0 then some 13 else none
 rd := fun (m, v, a, b, c, f) => (bif m then [] else [0]) ++ (bif Nat.beq a 0 then [1] else bif Nat.beq a 1 then [2] else bif Nat.beq a 3 && m then [4] else []) ++ (bif Nat.beq b 0 then [5] else bif Nat.beq b 1 && Nat.ble 2 a then [6] else bif Nat.beq b 3 && m then [8] else []) ++ (bif Nat.beq c 0 then [9] else bif Nat.beq c 1 && Nat.ble 2 b then [10] else bif Nat.beq c 3 && m then [12] else []) ++ (bif v then [] else [14]) ++ (bif Nat.beq f 1 && v then [15] else [])
 to := fun (m, v, a, b, c, f) i => (m || Nat.beq i 0, v || Nat.beq i 14, bif Nat.ble 1 i && Nat.ble i 4 then i else a, bif Nat.ble 5 i && Nat.ble i 8 then i - 4 else b, bif Nat.ble 9 i && Nat.ble i 12 then i - 8 else c, bif Nat.beq i 13 then 1 else bif Nat.beq i 15 then 2 else f)
def all12 : List St12 := [(false, false, 0, 0, 0, 0), (false, false, 0, 0, 1, 0), (false, false, 0, 1, 0, 0), (false, false, 0, 1, 1, 0), (false, false, 1, 0, 0, 0), (false, false, 1, 0, 1, 0), (false, false, 1, 1, 0, 0), (false, false, 1, 1, 1, 0), (false, false, 2, 0, 0, 0), (false, false, 2, 0, 1, 0), (false, false, 2, 1, 0, 0), (false, false, 2, 1, 1, 0), (false, false, 3, 0, 0, 0), (false, false, 3, 0, 1, 0), (false, false, 3, 1, 0, 0), (false, false, 3, 1, 1, 0), (false, false, 3, 2, 0, 0), (false, false, 3, 2, 1, 0), (false, false, 3, 3, 0, 0), (false, false, 3, 3, 1, 0), (false, false, 3, 3, 2, 0), (false, false, 3, 3, 3, 0), (false, true, 0, 0, 0, 0), (false, true, 0, 0, 1, 0), (false, true, 0, 1, 0, 0), (false, true, 0, 1, 1, 0), (false, true, 1, 0, 0, 0), (false, true, 1, 0, 1, 0), (false, true, 1, 1, 0, 0), (false, true, 1, 1, 1, 0), (false, true, 2, 0, 0, 0), (false, true, 2, 0, 1, 0), (false, true, 2, 1, 0, 0), (false, true, 2, 1, 1, 0), (false, true, 3, 0, 0, 0), (false, true, 3, 0, 1, 0), (false, true, 3, 1, 0, 0), (false, true, 3, 1, 1, 0), (false, true, 3, 2, 0, 0), (false, true, 3, 2, 1, 0), (false, true, 3, 3, 0, 0), (false, true, 3, 3, 1, 0), (false, true, 3, 3, 2, 0), (false, true, 3, 3, 3, 0), (true, false, 0, 0, 0, 0), (true, false, 0, 0, 1, 0), (true, false, 0, 1, 0, 0), (true, false, 0, 1, 1, 0), (true, false, 1, 0, 0, 0), (true, false, 1, 0, 1, 0), (true, false, 1, 1, 0, 0), (true, false, 1, 1, 1, 0), (true, false, 2, 0, 0, 0), (true, false, 2, 0, 1, 0), (true, false, 2, 1, 0, 0), (true, false, 2, 1, 1, 0), (true, false, 3, 0, 0, 0), (true, false, 3, 0, 1, 0), (true, false, 3, 1, 0, 0), (true, false, 3, 1, 1, 0), (true, false, 3, 2, 0, 0), (true, false, 3, 2, 1, 0), (true, false, 3, 3, 0, 0), (true, false, 3, 3, 1, 0), (true, false, 3, 3, 2, 0), (true, false, 3, 3, 3, 0), (true, false, 3, 3, 4, 0), (true, false, 3, 4, 0, 0), (true, false, 3, 4, 1, 0), (true, false, 3, 4, 2, 0), (true, false, 3, 4, 3, 0), (true, false, 3, 4, 4, 0), (true, false, 4, 0, 0, 0), (true, false, 4, 0, 1, 0), (true, false, 4, 1, 0, 0), (true, false, 4, 1, 1, 0), (true, false, 4, 2, 0, 0), (true, false, 4, 2, 1, 0), (true, false, 4, 3, 0, 0), (true, false, 4, 3, 1, 0), (true, false, 4, 3, 2, 0), (true, false, 4, 3, 3, 0), (true, false, 4, 3, 4, 0), (true, false, 4, 4, 0, 0), (true, false, 4, 4, 1, 0), (true, false, 4, 4, 2, 0), (true, false, 4, 4, 3, 0), (true, false, 4, 4, 4, 0), (true, false, 4, 4, 4, 1), (true, true, 0, 0, 0, 0), (true, true, 0, 0, 1, 0), (true, true, 0, 1, 0, 0), (true, true, 0, 1, 1, 0), (true, true, 1, 0, 0, 0), (true, true, 1, 0, 1, 0), (true, true, 1, 1, 0, 0), (true, true, 1, 1, 1, 0), (true, true, 2, 0, 0, 0), (true, true, 2, 0, 1, 0), (true, true, 2, 1, 0, 0), (true, true, 2, 1, 1, 0), (true, true, 3, 0, 0, 0), (true, true, 3, 0, 1, 0), (true, true, 3, 1, 0, 0), (true, true, 3, 1, 1, 0), (true, true, 3, 2, 0, 0), (true, true, 3, 2, 1, 0), (true, true, 3, 3, 0, 0), (true, true, 3, 3, 1, 0), (true, true, 3, 3, 2, 0), (true, true, 3, 3, 3, 0), (true, true, 3, 3, 4, 0), (true, true, 3, 4, 0, 0), (true, true, 3, 4, 1, 0), (true, true, 3, 4, 2, 0), (true, true, 3, 4, 3, 0), (true, true, 3, 4, 4, 0), (true, true, 4, 0, 0, 0), (true, true, 4, 0, 1, 0), (true, true, 4, 1, 0, 0), (true, true, 4, 1, 1, 0), (true, true, 4, 2, 0, 0), (true, true, 4, 2, 1, 0), (true, true, 4, 3, 0, 0), (true, true, 4, 3, 1, 0), (true, true, 4, 3, 2, 0), (true, true, 4, 3, 3, 0), (true, true, 4, 3, 4, 0), (true, true, 4, 4, 0, 0), (true, true, 4, 4, 1, 0), (true, true, 4, 4, 2, 0), (true, true, 4, 4, 3, 0), (true, true, 4, 4, 4, 0), (true, true, 4, 4, 4, 1), (true, true, 4, 4, 4, 2)]
def t12 : Ord := d12.tree 16 (false, false, 0, 0, 0, 0)
def q12O : Nat → Ord × (Nat → Cls) := fun id => bif Nat.beq id 3 then (t12, clOf [.ext, .ext, .ext, .pure, .loud, .ext, .ext, .pure, .loud, .ext, .ext, .pure, .loud, .pure, .ext, .loud]) else (.done, clOf [])
def CntM (a b c : Bool) (s g : Nat) (kvs : List (List Int × Int)) : Prop := ∀ k, lookL kvs [k] = if k = 0 then (bif a then some (s : Int) else none) else if k = 1 then (bif b then some (s : Int) else none) else if k = 2 then (bif c then some (g : Int) else none) else none
theorem cnt0 {b c : Bool} {s g : Nat} {kvs : List (List Int × Int)} (h : CntM false b c s g kvs) : CntM true b c s g (updL kvs [0] (s : Nat)) := fun k => by
 rw [lookL_upd, h k]
 by_cases h0 : k = 0 <;> simp [h0]
theorem cnt1 {a c : Bool} {s g : Nat} {kvs : List (List Int × Int)} (h : CntM a false c s g kvs) : CntM a true c s g (updL kvs [1] (s : Nat)) := fun k => by
 rw [lookL_upd, h k]
 by_cases h0 : k = 1 <;> simp [h0]
theorem cnt2 {a b : Bool} {s g : Nat} {kvs : List (List Int × Int)} (h : CntM a b false s g kvs) : CntM a b true s g (updL kvs [2] (g : Nat)) := fun k => by
 rw [lookL_upd, h k]
 by_cases h0 : k = 2 <;> simp [h0]
abbrev consB {α : Type} (c : Bool) (x : α) (r : List α) : List α := bif c then x :: r else r
theorem cntN (s g : Nat) : CntM false false false s g [] := fun k => by simp [lookL]
def sg12 (m : ModS) (l : List QryS) (rs rg : List (Int × Int)) (b2 : Nat) : St12 → Nat × Nat × List (List Int × Int) → AS
 | (mk, v, a, b, c, f), (M, b5, kvs) => ⟨(1, qrys l) :: (2, pm b2) :: consB mk (9, .val (.map (some M))) (consB v (5, pm b5) (consB (Nat.beq a 1) (10, mdl m) (consB (Nat.beq a 2) (11, .sl 2 rs rngC) (consB (Nat.beq a 3) (12, it (rs.length : Nat)) (consB (Nat.beq b 1) (13, mdl m) (consB (Nat.beq b 2) (14, .sl 2 rs rngC) (consB (Nat.beq b 3) (15, it (rs.length : Nat)) (consB (Nat.beq c 1) (16, mdl m) (consB (Nat.beq c 2) (17, .sl 2 rg rngC) (consB (Nat.beq c 3) (18, it (rg.length : Nat)) (consB (Nat.beq f 1) (19, .val (.map (some M))) []))))))))))),
  blkR b2 30 (modC m) :: consB mk (mapR Tryz.prog M 3 kvs cntf) (consB v (blkR b5 112 [bif Nat.beq f 2 then .val (.map (some M)) else .val (.map none)]) [])⟩
def in12 (s g : Nat) : St12 → Nat × Nat × List (List Int × Int) → Prop
 | (_, _, a, b, c, _), (_, _, kvs) => CntM (Nat.ble 4 a) (Nat.ble 4 b) (Nat.ble 4 c) s g kvs
set_option maxHeartbeats 40000000 in
theorem svalidW_g (m : ModS) (l : List QryS) (rs rg : List (Int × Int)) (hv : CallGP Tryz.prog 56 [mdl m] (.val (.bool true))) (hs : CallGP Tryz.prog 57 [mdl m] (.sl 2 rs rngC)) (hg : CallGP Tryz.prog 58 [mdl m] (.sl 2 rg rngC)) :
  CallGP Tryz.prog 12 [mdl m, qrys l] (.val (.bool (l.all fun q => decide (QryK rs.length rg.length q)))) := by
 refine CallG.of pg q12O Tryz.func12 rfl Tryz.ntmps12 Tryz.results12 rfl fun h0 G0 O0 ga => ?_
 (repeat' (first|(show CA _ _ (Code.region 3 _ _) _ _;apply Stopped.out)|refine Sp.h ?_|refine Lk.r rfl ?_|refine Rf.mk rfl ?_|refine xA ?_|refine All.mk fun _=>?_|refine xT ?_|refine Ch.l ⟨rfl, rfl⟩ ?_|(apply Cl.pG (hv);(focus exact ga);focus (repeat' constructor);done)));any_goals apply Stopped.mk
 rename_i b2
 refine CA.cut (fun x : Nat × Nat × List (List Int × Int) => ⟨[(1, qrys l), (5, pm x.1)], [blkR x.1 112 [.val (.map (some x.2.1))], mapR Tryz.prog x.2.1 3 x.2.2 cntf]⟩) (fun x => CntM true true true rs.length rg.length x.2.2) ?_ ?_
 ·apply CA.draw (t := t12)
  focus rfl
  focus kernel_rfl
  focus
   show (noDef _ && chkG _ _ t12 16 _ _) = true
   rw [Bool.and_eq_true]
   exact ⟨by kernel_rfl, Dag.chk (all := all12) (by kernel_rfl) 16 _ (by unfold all12;exact List.mem_cons_self) rfl⟩
  focus exact ON.refl _
  focus rfl
  refine RA'.sub (sg12 m l rs rg b2 (false, false, 0, 0, 0, 0) (0, 0, [])) xE ?_
  unfold t12
  refine RA'.dag (D := d12) (all := all12) (sg12 m l rs rg b2) (in12 rs.length rg.length) (by kernel_rfl) ?_ 16 _ (by unfold all12;exact List.mem_cons_self) rfl _ (cntN _ _)
  unfold all12
  repeat' (first|exact List.forall_mem_nil _|refine List.forall_mem_cons.2 ⟨?_, ?_⟩)
  all_goals
   rintro ⟨M, b5, kvs⟩ hI
   refine ⟨?_, ?_⟩
   ·repeat' (first|exact List.forall_mem_nil _|refine List.forall_mem_cons.2 ⟨?_, ?_⟩)
    all_goals
     intro r hr
     (repeat' (first|refine Sp.h ?_|refine Lk.r rfl ?_|refine Rf.mk rfl ?_|refine OpK.r rfl ?_|refine Im.mk fun _=>?_|refine All.mk fun _=>?_|refine xT ?_|refine Ch.l ⟨rfl, rfl⟩ ?_|refine xV ?_|refine xN ?_|(apply Kf.mk;(focus kernel_rfl))|refine xM ?_|refine UpV.r rfl ?_|(refine MkM.r cntf ?_)|(apply Cl.pG (hs);(focus exact ga);focus (repeat' constructor);done)|(apply Cl.pG (hg);(focus exact ga);focus (repeat' constructor);done)))
     first
      | (refine RA'.sub _ ?_ (hr (M, b5, kvs) hI);refine ⟨?_, ?_⟩;(focus ((repeat first|exact trivial|refine ⟨rfl, ?_⟩);done));(focus (((repeat first|exact .nil|refine .cons (by repeat constructor) ?_));done)))
      | (rename_i q;refine RA'.sub _ ?_ (hr (q, b5, []) (cntN _ _));refine ⟨?_, ?_⟩;(focus ((repeat first|exact trivial|refine ⟨rfl, ?_⟩);done));(focus (((repeat first|exact .nil|refine .cons (by repeat constructor) ?_));done)))
      | (rename_i q;refine RA'.sub _ ?_ (hr (M, q, kvs) hI);refine ⟨?_, ?_⟩;(focus ((repeat first|exact trivial|refine ⟨rfl, ?_⟩);done));(focus (((repeat first|exact .nil|refine .cons (by repeat constructor) ?_));done)))
      | (refine RA'.sub _ ?_ (hr (M, b5, updL kvs [0] (rs.length : Nat)) (cnt0 hI));refine ⟨?_, ?_⟩;(focus ((repeat first|exact trivial|refine ⟨rfl, ?_⟩);done));(focus (((repeat first|exact .nil|refine .cons (by repeat constructor) ?_));done)))
      | (refine RA'.sub _ ?_ (hr (M, b5, updL kvs [1] (rs.length : Nat)) (cnt1 hI));refine ⟨?_, ?_⟩;(focus ((repeat first|exact trivial|refine ⟨rfl, ?_⟩);done));(focus (((repeat first|exact .nil|refine .cons (by repeat constructor) ?_));done)))
      | (refine RA'.sub _ ?_ (hr (M, b5, updL kvs [2] (rg.length : Nat)) (cnt2 hI));refine ⟨?_, ?_⟩;(focus ((repeat first|exact trivial|refine ⟨rfl, ?_⟩);done));(focus (((repeat first|exact .nil|refine .cons (by repeat constructor) ?_));done)))
   ·intro hmv
    first
     | exact absurd hmv (List.cons_ne_nil _ _)
     | exact PA.lp (b5, M, kvs) xE hI
 ·rintro ⟨b5, M, kvs⟩ hk
  simp only at hk
  simp only
  have hk2 : CntK kvs rs.length rg.length := fun k => by
   rw [hk k]
   unfold cntO
   by_cases h0 : k = 0
   ·simp [h0]
   ·by_cases h1 : k = 1 <;> simp [h0, h1]
  have hcon := containsQ_p (g := 60) (p := fun q => decide (¬ QryK rs.length rg.length q)) (fun q => qclo_p hk2 q) rfl l
  repeat' (first|refine Sp.h ?_|refine Lk.r rfl ?_|refine Rf.mk rfl ?_|fail)
  refine Cl.lendS hcon (lendS_map (by repeat constructor) (by repeat constructor)) ?_
  repeat' (first|refine Sp.h ?_|refine Lk.r rfl ?_|refine xN ?_|fail)
  refine Fin.p rfl (vb ?_)
  rw [Bool.eq_iff_iff]
  simp
theorem svalid_g (m : ModS) (l : List QryS) (hol : m.ops.length ≤ 1000000000) (hur : UpdsRg m) : CallGP Tryz.prog 12 [mdl m, qrys l] (.val (.bool (decide (QrysX m l)))) := by
 have hv := mvalid_g m hol hur
 by_cases hx : ValX m
 ·have h := svalidW_g m l (rgsF m true) (rgsF m false) (by rw [decide_eq_true hx] at hv;exact hv) (mstrict_g m hol hur) (mmerged_g m hol hur)
  have he : (l.all fun q => decide (QryK (rgsF m true).length (rgsF m false).length q)) = decide (QrysX m l) := by
   rw [Bool.eq_iff_iff, List.all_eq_true, decide_eq_true_iff]
   exact ⟨fun h => ⟨hx, fun q hq => of_decide_eq_true (h q hq)⟩, fun h q hq => decide_eq_true (h.2 q hq)⟩
  rw [he] at h
  exact h
 ·rw [decide_eq_false hx] at hv
  rw [decide_eq_false fun h : QrysX m l => hx h.1]
  refine CallG.of pg ord12 Tryz.func12 rfl Tryz.ntmps12 Tryz.results12 rfl fun h0 G0 O0 ga => ?_
  repeat' (first|refine Sp.h ?_|refine Lk.r rfl ?_|refine Rf.mk rfl ?_|refine xB ?_|refine All.mk fun _=>?_|refine xT ?_|refine Ch.l ⟨rfl, rfl⟩ ?_|refine xN ?_|(apply Cl.pG (hv);(focus exact ga);focus (repeat' constructor);done))
  exact Fin.p rfl rfl
end Go.Proofs.YtmjllbjfkafhdaaGreatDoor
namespace Go.Proofs.YtmjllbjfkafhdaaGreatDoor
open Go Go.CF
set_option maxRecDepth 20000
def ConC (a b : List Int) : Prop := AlikeC [a, b] ∧ Ins b a
noncomputable instance (a b : List Int) : Decidable (ConC a b) := Classical.propDecidable _
theorem conC_iff (a b : List Int) : ConC a b ↔ (ValC a ∧ ValC b ∧ a.length = b.length) ∧ Ins b a := by
 unfold ConC
 rw [alike2']
theorem scontains_p (a b : List Int) : CallP Tryz.prog 62 [ints a, ints b] (bl (decide (ConC a b))) := by
 have h := compare_p a b
 by_cases hal : AlikeC [a, b]
 ·rw [if_pos hal] at h
  refine CallA.of pg ord62 Tryz.func62 rfl Tryz.ntmps62 Tryz.results62 rfl fun h0 G0 O0 => ?_
  by_cases hba : Ins b a
  ·rw [decide_eq_true (show ConC a b from ⟨hal, hba⟩)]
   by_cases hab : Ins a b
   ·rw [if_pos ⟨hab, hba⟩] at h
    repeat' (first|refine Sp.h ?_|refine Lk.r rfl ?_|refine Rf.mk rfl ?_|refine xA ?_|refine xN ?_|(apply Cl.p (h);focus repeat' constructor))
    all_goals exact Fin.p rfl (vb (by simp))
   ·rw [if_neg (fun h => hab h.1), if_neg hab, if_pos hba] at h
    repeat' (first|refine Sp.h ?_|refine Lk.r rfl ?_|refine Rf.mk rfl ?_|refine xA ?_|refine xB ?_|refine xN ?_|(apply Cl.p (h);focus repeat' constructor))
    all_goals exact Fin.p rfl (vb (by simp))
  ·rw [decide_eq_false (fun h : ConC a b => hba h.2)]
   by_cases hab : Ins a b
   ·rw [if_neg (fun h => hba h.2), if_pos hab] at h
    repeat' (first|refine Sp.h ?_|refine Lk.r rfl ?_|refine Rf.mk rfl ?_|refine xA ?_|refine xB ?_|refine xN ?_|(apply Cl.p (h);focus repeat' constructor))
    all_goals exact Fin.p rfl (vb (by simp))
   ·rw [if_neg (fun h => hba h.2), if_neg hab, if_neg hba] at h
    repeat' (first|refine Sp.h ?_|refine Lk.r rfl ?_|refine Rf.mk rfl ?_|refine xA ?_|refine xB ?_|refine xN ?_|(apply Cl.p (h);focus repeat' constructor))
    all_goals exact Fin.p rfl (vb (by simp))
 ·rw [if_neg hal] at h
  rw [decide_eq_false (fun h : ConC a b => hal h.1)]
  refine CallA.of pg ord62 Tryz.func62 rfl Tryz.ntmps62 Tryz.results62 rfl fun h0 G0 O0 => ?_
  repeat' (first|refine Sp.h ?_|refine Lk.r rfl ?_|refine Rf.mk rfl ?_|refine xB ?_|refine xN ?_|(apply Cl.p (h);focus repeat' constructor))
  all_goals exact Fin.p rfl (vb (by simp))
theorem sinside_p (c : List Int) (e : EvS) : CallP Tryz.prog 65 [ints c, evA' e] (bl (decide (HasC c e.rep e.num))) := by
 have h := hasC_p c e.rep e.num
 refine CallA.of pg ord65 Tryz.func65 rfl Tryz.ntmps65 Tryz.results65 rfl fun h0 G0 O0 => ?_
 repeat' (first|refine Sp.h ?_|refine Lk.r rfl ?_|refine Rf.mk rfl ?_|refine All.mk fun _=>?_|refine xT ?_|(apply Fk.r;focus repeat' first|infer_instance|constructor)|refine xN ?_|(apply Cl.p (h);focus repeat' constructor))
 exact Fin.p rfl rfl
end Go.Proofs.YtmjllbjfkafhdaaGreatDoor
namespace Go.CF
open Go
section
variable {Γ : Cx} {k : List KI} {e : EA} {o : List Res} {N : NA} {c : Cls} {d : Tmp} {ty : TypeId} {x y : Operand} {t u : TypeId}
instance {cs : List AV} {j : Nat} : Sp (Ap2 Γ c d (.binOp .eql t x y u) ty e o N x (.ad cs j) y (.val (.pointer none))) (Lk (Γ.tt t) fun ti => Lk (match ti.kind with | .ptr e => some e|_ => none) fun q => Rf (ti.kind = .ptr q) (N ((d, .val (.bool false)) :: e) o)) := ⟨fun ⟨_, h1, _, _, hn⟩ => pu2 fun env h G v w g1 g2 r1 r2 => by
 obtain ⟨b, off, vs, rfl, _⟩ := r1
 have r2 : w = .pointer none := r2
 subst r2
 exact ⟨.val (.bool false), .bool false, rfl, hn.k, fun N' k => St.eql_pnil Γ.ok h1 hn.p g1 g2 k⟩⟩
end
end Go.CF
namespace Go.Proofs.YtmjllbjfkafhdaaGreatDoor
open Go Go.CF
set_option maxRecDepth 20000
structure ShwS (b : NowS) (l : List EvS) (w : NowS) : Prop where
 bs : SzN b
 ck : w.clock.length ≤ 100000
 ln : l.length ≤ 1000000
 ps : ∀ e ∈ l, e.past.length ≤ 1000000
theorem sbase_z (m : ModS) (b : NowS) (l : List EvS) (w : NowS) (h : SzN b) : CallP Tryz.prog 63 [.ad (stoV m b l w) 0] (basA b) := sbase_r m b w l h
def LooseC (c : List Int) (e : EvS) : Prop := HasC c e.rep e.num ∧ ¬ ConC c e.past
noncomputable instance (c : List Int) (e : EvS) : Decidable (LooseC c e) := Classical.propDecidable _
noncomputable instance (c : List Int) (l : List EvS) : Decidable (∃ e ∈ l, LooseC c e) := Classical.propDecidable _
noncomputable def chkF (bc : List Int) (l : List EvS) (wc c : List Int) : Int :=
 if ¬ (ValC c ∧ c.length = wc.length) then 1 else if ¬ ConC c bc then 7 else if ¬ ConC wc c then 11 else if ∃ e ∈ l, LooseC c e then 9 else 0
set_option maxHeartbeats 4000000 in
theorem scheck_p (m : ModS) (b : NowS) (l : List EvS) (w : NowS) (c : List Int) (h : ShwS b l w) : CallP Tryz.prog 14 [.ad (stoV m b l w) 0, ints c] (it (chkF b.clock l w.clock c)) := by
 have hv := validC_p c
 have hcl := sclock_z m b w l h.ck
 have hba := sbase_z m b l w h.bs
 have hev := sevents_z m b w l h.ln h.ps
 have hc1 := scontains_p c b.clock
 have hc2 := scontains_p w.clock c
 refine CallA.of pg ord14 Tryz.func14 rfl Tryz.ntmps14 Tryz.results14 rfl fun h0 G0 O0 => ?_
 by_cases h1 : ValC c ∧ c.length = w.clock.length
 rotate_left
 ·have hF : chkF b.clock l w.clock c = 1 := by rw [chkF, if_pos h1]
  rw [hF]
  repeat' (first|refine Sp.h ?_|refine Lk.r rfl ?_|refine Rf.mk rfl ?_|refine xA ?_|refine xB ?_|(refine Bd.mk ?_ ?_ <;> intro _)|refine Im.mk fun _=>?_|refine xN ?_|(apply Cl.p (hv);focus (repeat' constructor);done)|(apply Cl.p (hcl);focus (repeat' constructor);done)|(apply Cl.p (hba);focus (repeat' constructor);done)|(apply Cl.p (hc1);focus (repeat' constructor);done)|(apply Cl.p (hc2);focus (repeat' constructor);done))
  all_goals first
   | exact Fin.p rfl rfl
   | exact (h1 ⟨by assumption, by omega⟩).elim
 by_cases h2 : ConC c b.clock
 rotate_left
 ·have hF : chkF b.clock l w.clock c = 7 := by rw [chkF, if_neg (fun h => h h1), if_pos h2]
  rw [hF]
  obtain ⟨h11, h12⟩ := h1
  repeat' (first|refine Sp.h ?_|refine Lk.r rfl ?_|refine Rf.mk rfl ?_|refine xA ?_|refine xB ?_|refine Im.mk fun _=>?_|refine xN ?_|(apply Cl.p (hv);focus (repeat' constructor);done)|(apply Cl.p (hcl);focus (repeat' constructor);done)|(apply Cl.p (hba);focus (repeat' constructor);done)|(apply Cl.p (hc1);focus (repeat' constructor);done)|(apply Cl.p (hc2);focus (repeat' constructor);done))
  exact Fin.p rfl rfl
 by_cases h3 : ConC w.clock c
 rotate_left
 ·have hF : chkF b.clock l w.clock c = 11 := by rw [chkF, if_neg (fun h => h h1), if_neg (fun h => h h2), if_pos h3]
  rw [hF]
  obtain ⟨h11, h12⟩ := h1
  repeat' (first|refine Sp.h ?_|refine Lk.r rfl ?_|refine Rf.mk rfl ?_|refine xA ?_|refine xB ?_|refine Im.mk fun _=>?_|refine xN ?_|(apply Cl.p (hv);focus (repeat' constructor);done)|(apply Cl.p (hcl);focus (repeat' constructor);done)|(apply Cl.p (hba);focus (repeat' constructor);done)|(apply Cl.p (hc1);focus (repeat' constructor);done)|(apply Cl.p (hc2);focus (repeat' constructor);done))
  exact Fin.p rfl rfl
 have hF : chkF b.clock l w.clock c = if ∃ e ∈ l, LooseC c e then 9 else 0 := by rw [chkF, if_neg (fun h => h h1), if_neg (fun h => h h2), if_neg (fun h => h h3)]
 rw [hF]
 obtain ⟨h11, h12⟩ := h1
 repeat' (first|refine Sp.h ?_|refine Lk.r rfl ?_|refine Rf.mk rfl ?_|refine xA ?_|refine Im.mk fun _=>?_|(apply Cl.p (hv);focus (repeat' constructor);done)|(apply Cl.p (hcl);focus (repeat' constructor);done)|(apply Cl.p (hba);focus (repeat' constructor);done)|(apply Cl.p (hc1);focus (repeat' constructor);done)|(apply Cl.p (hc2);focus (repeat' constructor);done)|(apply Cl.p (hev);focus (repeat' constructor);done))
 refine CA.loop (fun i : Nat => ⟨[(1, ints c), (37, evs l), (38, it (l.length : Nat)), (39, it i)], []⟩) (fun i => i ≤ l.length ∧ ∀ j e, j < i → l[j]? = some e → ¬ LooseC c e) (fun i => l.length - i) 0 xE ⟨Nat.zero_le _, fun j e h => by omega⟩ ?_
 rintro i ⟨hi, hno⟩
 by_cases hin : i < l.length
 ·obtain ⟨e, he⟩ := get_of hin
  have hi1 := sinside_p c e
  have hi2 := scontains_p c e.past
  by_cases hL : LooseC c e
  ·rw [if_pos ⟨e, List.mem_of_getElem? he, hL⟩]
   obtain ⟨hL1, hL2⟩ := hL
   repeat' (first|refine Sp.h ?_|refine Lk.r rfl ?_|refine Rf.mk rfl ?_|refine xA ?_|refine xB ?_|refine All.mk fun _=>?_|refine xT ?_|refine xI ?_|refine Ch.l ⟨rfl, rfl⟩ ?_|(apply SetAsk.r;focus repeat' constructor)|refine xN ?_|(apply Cl.p (hi1);focus (repeat' constructor);done)|(apply Cl.p (hi2);focus (repeat' constructor);done))
   exact Fin.p rfl rfl
  ·have hgo := alli_succ he hno hL
   repeat' (first|refine Sp.h ?_|refine Lk.r rfl ?_|refine Rf.mk rfl ?_|refine xA ?_|refine xB ?_|(refine Bd.mk ?_ ?_ <;> intro _)|refine All.mk fun _=>?_|refine xT ?_|refine xI ?_|refine Ch.l ⟨rfl, rfl⟩ ?_|(apply SetAsk.r;focus repeat' constructor)|refine xN ?_|refine xO ?_|(apply Cl.p (hi1);focus (repeat' constructor);done)|(apply Cl.p (hi2);focus (repeat' constructor);done))
   all_goals first
    | exact PA.lp (i + 1) xE ⟨⟨hin, hgo⟩, by omega⟩
    | exact (hL ⟨by assumption, by assumption⟩).elim
 ·rw [if_neg fun ⟨e, he, hL⟩ => by
   obtain ⟨j, hj⟩ := List.getElem?_of_mem he
   exact hno j e (by have := (List.getElem?_eq_some_iff.1 hj).1;omega) hj hL]
  repeat' (first|refine Sp.h ?_|refine Lk.r rfl ?_|refine Rf.mk rfl ?_|refine xB ?_|refine xN ?_|fail)
  exact Fin.p rfl rfl
theorem scheck_nil (c : List Int) : CallP Tryz.prog 14 [.val (.pointer none), ints c] (it 1) := by
 refine CallA.of pg ord14 Tryz.func14 rfl Tryz.ntmps14 Tryz.results14 rfl fun h0 G0 O0 => ?_
 repeat' (first|refine Sp.h ?_|refine Lk.r rfl ?_|refine Rf.mk rfl ?_|refine xA ?_|refine xN ?_|fail)
 exact Fin.p rfl rfl
end Go.Proofs.YtmjllbjfkafhdaaGreatDoor
namespace Go.Proofs.YtmjllbjfkafhdaaGreatDoor
open Go Go.CF
set_option maxRecDepth 20000
set_option maxHeartbeats 2000000 in
theorem sapply_p (st : List Int) (d : List (Int × Int)) (hl : st.length ≤ 1000000) (hd : ∀ p ∈ d, 0 ≤ p.1 ∧ p.1 < (st.length : Nat)) : CallP Tryz.prog 135 [ints st, terms d] (ints (addD st d)) := by
 have hc := clone_o st (by omega)
 refine CallA.of pg ord135 Tryz.func135 rfl Tryz.ntmps135 Tryz.results135 rfl fun h0 G0 O0 => ?_
 repeat' (first|refine Sp.h ?_|refine Lk.r rfl ?_|refine Rf.mk rfl ?_|fail)
 (refine Cl.use (hc) (by repeat' (first|exact Lend.nil|apply Lend.keep|fail)) .nil rfl ?_;rintro _ _ ⟨_, rfl, rfl⟩)
 repeat' (first|refine Sp.h ?_|refine Lk.r rfl ?_|refine Rf.mk rfl ?_|refine Im.mk fun _=>?_|fail)
 rename_i u _
 refine CA.loop (fun i : Nat => ⟨[(5, .ow u), (10, terms d), (11, it (d.length : Nat)), (12, it i)], [arrR u 3 1 (addD st (d.take i)) intC]⟩) (fun i => i ≤ d.length) (fun i => d.length - i) 0 xE (Nat.zero_le _) ?_
 intro i hi
 have hlen := addD_length (d.take i) st
 by_cases hil : i < d.length
 ·obtain ⟨p, hp⟩ := get_of hil
  obtain ⟨p1, p2⟩ := hd p (List.mem_of_getElem? hp)
  obtain ⟨z, hz⟩ := get_of (l := addD st (d.take i)) (i := p.1.toNat) (by omega)
  have hs := addD_succ (s := st) hp
  rw [show add1 (addD st (d.take i)) p = (addD st (d.take i)).set p.1.toNat (IntKind.i64.wrap (z + p.2)) by rw [add1, hz];rfl] at hs
  repeat' (first|refine Sp.h ?_|refine Lk.r rfl ?_|refine Rf.mk rfl ?_|refine xA ?_|refine OpK.r rfl ?_|refine All.mk fun _=>?_|refine xU ?_|refine xT ?_|refine xI ?_|(apply Ix.r;(focus assumption);(focus omega))|refine xJ ?_|refine Ch.l ⟨rfl, rfl⟩ ?_|(apply SetAsk.r;focus repeat' constructor)|refine xN ?_|refine xD ?_|fail)
  all_goals try exact (by omega : False).elim
  refine ⟨?_⟩
  repeat' (first|refine Sp.h ?_|refine Lk.r rfl ?_|refine Rf.mk rfl ?_|refine OpK.r rfl ?_|refine xU ?_|(apply Ix.r;(focus assumption);(focus omega))|refine xJ ?_|refine xV ?_|refine Up.r rfl ?_|refine xO ?_|fail)
  rw [← hs]
  exact PA.lp (i + 1) xE ⟨hil, by omega⟩
 ·have hie : i = d.length := by omega
  subst hie
  rw [List.take_length] at hlen ⊢
  repeat' (first|refine Sp.h ?_|refine Lk.r rfl ?_|refine Rf.mk rfl ?_|refine xB ?_|refine xN ?_|fail)
  exact ⟨_, _, .one (.fz (by repeat constructor) (by omega) (.z)), rfl, rfl⟩
noncomputable def snpS (m : ModS) (b : NowS) (l : List EvS) (c : List Int) : List Int := (inL c l).foldl (addE m) b.state
noncomputable def snpK (m : ModS) (b : NowS) (l : List EvS) (c : List Int) : List MgS := (inL c l).foldl (mrg1 m) b.merged
noncomputable def snpV (m : ModS) (b : NowS) (l : List EvS) (c : List Int) : List (List Int) := (valuesQ m (snpK m b l c)).2
theorem addEf_len {m : ModS} (A : List EvS) : ∀ s : List Int, (A.foldl (addE m) s).length = s.length := by
 induction A with
 | nil => exact fun s => rfl
 | cons e A ih => intro s;rw [List.foldl_cons, ih, addE_len]
set_option maxHeartbeats 8000000 in
theorem stake_g (m : ModS) (b : NowS) (l : List EvS) (w : NowS) (c : List Int) (h : ShwS b l w) (hm : MOK m) (hx : ValX m) (hol : m.ops.length ≤ 1000000000) (hur : UpdsRg m) (hb : b.state.length = strF m) (hev : ∀ e ∈ l, EvV m (w.clock.length : Nat) e) :
  CallGP Tryz.prog 66 [mdl m, .ad (stoV m b l w) 0, ints c] (.agg [ints (snpS m b l c), bools (visL m (snpS m b l c)), clks (snpV m b l c)]) := by
 have hba := sbase_z m b l w h.bs
 have hes := sevents_z m b w l h.ln h.ps
 have hvq := valuesQ_p m (snpK m b l c) hm
 have hsl : (snpS m b l c).length = strF m := by rw [snpS, addEf_len, hb]
 have hvs := svisible_g m (snpS m b l c) hx hsl hol hur
 have hstr := hm.str
 refine CallG.of pg ord66 Tryz.func66 rfl Tryz.ntmps66 Tryz.results66 rfl fun h0 G0 O0 ga => ?_
 repeat' (first|refine Sp.h ?_|refine Lk.r rfl ?_|refine Rf.mk rfl ?_|refine OpK.r rfl ?_|refine Im.mk fun _=>?_|refine All.mk fun _=>?_|refine xT ?_|(apply SetAsk.r;focus repeat' constructor)|refine xN ?_|refine xD ?_|(apply Cl.p (hba);focus (repeat' constructor);done)|(apply Cl.p (hes);focus (repeat' constructor);done))
 rename_i b3 b6 b7 _
 refine CA.loop (fun i : Nat => ⟨[(2, ints c), (3, pm b3), (6, pm b6), (8, ints ((inL c (l.take i)).foldl (addE m) b.state)), (9, mgs ((inL c (l.take i)).foldl (mrg1 m) b.merged)), (21, evs l), (22, it (l.length : Nat)), (23, it i)], [blkR b3 30 (modC m), blkR b6 121 [nl0, nl0, nl0]]⟩) (fun i => i ≤ l.length) (fun i => l.length - i) 0 xE (Nat.zero_le _) ?_
 intro i hi
 by_cases hin : i < l.length
 ·obtain ⟨e, he⟩ := get_of hin
  have hsu := inL_succ (c := c) he
  have hi1 := sinside_p c e
  have hE := hev e (List.mem_of_getElem? he)
  by_cases hH : HasC c e.rep e.num
  ·rw [if_pos hH] at hsu
   have hap := applyT_p m ((inL c (l.take i)).foldl (mrg1 m) b.merged) e hm
   have hS' : (inL c (l.take (i + 1))).foldl (addE m) b.state = addE m ((inL c (l.take i)).foldl (addE m) b.state) e := by rw [hsu, List.foldl_append];rfl
   have hK' : (inL c (l.take (i + 1))).foldl (mrg1 m) b.merged = (applyF m ((inL c (l.take i)).foldl (mrg1 m) b.merged) e).2 := by rw [hsu, List.foldl_append];rfl
   have hSl : ((inL c (l.take i)).foldl (addE m) b.state).length = strF m := by rw [addEf_len, hb]
   generalize (inL c (l.take i)).foldl (addE m) b.state = S at hS' hSl ⊢
   generalize (inL c (l.take i)).foldl (mrg1 m) b.merged = K at hap hK' ⊢
   by_cases hk : e.kind = 0
   ·have h1 := act_rng hE.1 hk
    have h2 := hE.2.2 hk
    obtain ⟨a, ha⟩ := get_of (l := m.acts) (i := e.action.toNat) (by omega)
    have heo := hm.eff a (List.mem_of_getElem? ha)
    have hsa := sapply_p S a.eff.delta (by omega) (fun p hp => by rw [hSl];exact heo.d p hp)
    rw [addE, if_pos hk, dltF_at ha] at hS'
    repeat' (first|refine Sp.h ?_|refine Lk.r rfl ?_|refine Rf.mk rfl ?_|refine xA ?_|refine Im.mk fun _=>?_|refine All.mk fun _=>?_|refine xT ?_|refine xI ?_|(apply Ix.r;(focus assumption);(focus omega))|refine Ch.l ⟨rfl, rfl⟩ ?_|(apply SetAsk.r;focus repeat' constructor)|refine xN ?_|refine xO ?_|(apply Cl.p (hi1);focus (repeat' constructor);done)|(apply Cl.p (hsa);focus (repeat' constructor);done)|(apply Cl.p (hap);focus (repeat' constructor);done))
    all_goals try exact (by omega : False).elim
    rw [← hS', ← hK']
    exact PA.lp (i + 1) xE ⟨hin, by omega⟩
   ·rw [addE, if_neg hk] at hS'
    repeat' (first|refine Sp.h ?_|refine Lk.r rfl ?_|refine Rf.mk rfl ?_|refine xA ?_|refine xB ?_|refine All.mk fun _=>?_|refine xT ?_|refine xI ?_|refine Ch.l ⟨rfl, rfl⟩ ?_|(apply SetAsk.r;focus repeat' constructor)|refine xN ?_|refine xO ?_|(apply Cl.p (hi1);focus (repeat' constructor);done)|(apply Cl.p (hap);focus (repeat' constructor);done))
    all_goals try exact (by omega : False).elim
    rw [← hS', ← hK']
    exact PA.lp (i + 1) xE ⟨hin, by omega⟩
  ·rw [if_neg hH, List.append_nil] at hsu
   rw [← hsu]
   repeat' (first|refine Sp.h ?_|refine Lk.r rfl ?_|refine Rf.mk rfl ?_|refine xA ?_|refine xB ?_|refine All.mk fun _=>?_|refine xT ?_|refine xI ?_|refine Ch.l ⟨rfl, rfl⟩ ?_|(apply SetAsk.r;focus repeat' constructor)|refine xN ?_|refine xO ?_|(apply Cl.p (hi1);focus repeat' constructor))
   exact PA.lp (i + 1) xE ⟨hin, by omega⟩
 ·have hie : i = l.length := by omega
  subst hie
  rw [List.take_length]
  change CA _ _ _ [(2, ints c), (3, pm b3), (6, pm b6), (8, ints (snpS m b l c)), (9, mgs (snpK m b l c)), (21, evs l), (22, it (l.length : Nat)), (23, it (l.length : Nat))] _
  have hV : (valuesQ m (snpK m b l c)).2 = snpV m b l c := rfl
  generalize snpS m b l c = S at hvs ⊢
  generalize snpV m b l c = V at hV ⊢
  repeat' (first|refine Sp.h ?_|refine Lk.r rfl ?_|refine Rf.mk rfl ?_|refine xB ?_|refine xT ?_|refine Ch.l ⟨rfl, rfl⟩ ?_|(apply SetAsk.r;focus repeat' constructor)|(apply Fk.r;focus repeat' first|infer_instance|constructor)|refine xN ?_|(apply Cl.pG (hvs);(focus exact ga);focus (repeat' constructor);done)|(apply Cl.p (hvq);focus (repeat' constructor);done))
  rw [hV]
  exact Fin.p rfl rfl
end Go.Proofs.YtmjllbjfkafhdaaGreatDoor
namespace Go.Proofs.YtmjllbjfkafhdaaGreatDoor
open Go Go.CF
set_option maxRecDepth 20000
abbrev snpC (S : List Int) (B : List Bool) (V : List (List Int)) : List AV := [ints S, bools B, clks V]
def valQ (S : List Int) (B : List Bool) (V : List (List Int)) (q : QryS) : List Int :=
 if q.1 = 0 then [S[q.2.toNat]?.getD 0] else if q.1 = 1 then [if B[q.2.toNat]?.getD false then 1 else 0] else V[q.2.toNat]?.getD []
theorem vals1_o (S : List Int) (B : List Bool) (V : List (List Int)) (j : Nat) (x : Int) (hx : S[j]? = some x) : CallO Tryz.prog 138 [it j, .ad (snpC S B V) 0] 3 1 [x] intC := by
 refine CallA.of pg ord138 Tryz.func138 rfl Tryz.ntmps138 Tryz.results138 rfl fun h0 G0 O0 => ?_
 repeat' (first|refine Sp.h ?_|refine Lk.r rfl ?_|refine Rf.mk rfl ?_|refine All.mk fun _=>?_|refine xI ?_|(apply Fk.r;focus repeat' first|infer_instance|constructor)|refine xN ?_|refine Rf.mk ⟨rfl, rfl, rfl⟩ ?_|fail)
 refine ⟨_, _, .one (.same (.nil (Subl.cons .here .nil))), _, rfl, ?_⟩
 exact congrArg (fun R => [R]) (arrR_eq rfl)
theorem vals2_o (S : List Int) (B : List Bool) (V : List (List Int)) (j : Nat) (x : Bool) (hx : B[j]? = some x) : CallO Tryz.prog 139 [it j, .ad (snpC S B V) 0] 3 1 [if x then 1 else 0] intC := by
 cases x
 ·refine CallA.of pg ord139 Tryz.func139 rfl Tryz.ntmps139 Tryz.results139 rfl fun h0 G0 O0 => ?_
  repeat' (first|refine Sp.h ?_|refine Lk.r rfl ?_|refine Rf.mk rfl ?_|refine All.mk fun _=>?_|refine xI ?_|(apply Fk.r;focus repeat' first|infer_instance|constructor)|refine xN ?_|refine Rf.mk ⟨rfl, rfl, rfl⟩ ?_|fail)
  refine ⟨_, _, .one (.same (.nil (Subl.cons .here .nil))), _, rfl, ?_⟩
  exact congrArg (fun R => [R]) (arrR_eq rfl)
 ·refine CallA.of pg ord139 Tryz.func139 rfl Tryz.ntmps139 Tryz.results139 rfl fun h0 G0 O0 => ?_
  repeat' (first|refine Sp.h ?_|refine Lk.r rfl ?_|refine Rf.mk rfl ?_|refine All.mk fun _=>?_|refine xI ?_|(apply Fk.r;focus repeat' first|infer_instance|constructor)|refine xN ?_|refine Rf.mk ⟨rfl, rfl, rfl⟩ ?_|fail)
  refine ⟨_, _, .one (.same (.nil (Subl.cons .here .nil))), _, rfl, ?_⟩
  exact congrArg (fun R => [R]) (arrR_eq rfl)
theorem vals3_o (S : List Int) (B : List Bool) (V : List (List Int)) (j : Nat) (x : List Int) (hx : V[j]? = some x) (hl : x.length ≤ 100000) : CallO Tryz.prog 140 [it j, .ad (snpC S B V) 0] 3 1 x intC := by
 have hc := clone_o x (by omega)
 refine CallA.of pg ord140 Tryz.func140 rfl Tryz.ntmps140 Tryz.results140 rfl fun h0 G0 O0 => ?_
 repeat' (first|refine Sp.h ?_|refine Lk.r rfl ?_|refine Rf.mk rfl ?_|refine xI ?_|fail)
 (refine Cl.use (hc) (by repeat' (first|exact Lend.nil|apply Lend.keep|fail)) .nil rfl ?_;rintro _ _ ⟨_, rfl, rfl⟩)
 repeat' (first|refine Sp.h ?_|refine Lk.r rfl ?_|refine xN ?_|fail)
 exact ⟨_, _, .one (.same (.z)), _, rfl, rfl⟩
structure ValK (S : List Int) (B : List Bool) (V : List (List Int)) (q : QryS) : Prop where
 c : 0 ≤ q.2
 k : q.1 = 0 ∧ q.2 < (S.length : Nat) ∨ q.1 = 1 ∧ q.2 < (B.length : Nat) ∨ q.1 = 2 ∧ q.2 < (V.length : Nat)
 l : ∀ x ∈ V, x.length ≤ 100000
def fnQ (S : List Int) (B : List Bool) (V : List (List Int)) : List (List AV) := [[.fn 138 [.ad (snpC S B V) 0]], [.fn 139 [.ad (snpC S B V) 0]], [.fn 140 [.ad (snpC S B V) 0]]]
set_option maxHeartbeats 2000000 in
theorem svalues_o (S : List Int) (B : List Bool) (V : List (List Int)) (q : QryS) (h : ValK S B V q) : CallO Tryz.prog 67 [.agg (snpC S B V), .agg (qryC q)] 3 1 (valQ S B V q) intC := by
 obtain ⟨k, c⟩ := q
 obtain ⟨hc, hk, hl⟩ := h
 simp only at hc hk
 obtain ⟨j, rfl⟩ := Int.eq_ofNat_of_zero_le hc
 rcases hk with ⟨rfl, hk⟩|⟨rfl, hk⟩|⟨rfl, hk⟩
 ·obtain ⟨x, hx⟩ := get_of (l := S) (i := j) (by omega)
  have hv := vals1_o S B V j x hx
  rw [show valQ S B V (0, (j : Int)) = [x] by simp [valQ, hx]]
  have hq : (fnQ S B V)[0]? = some [.fn 138 [.ad (snpC S B V) 0]] := rfl
  refine CallA.of pg ord67 Tryz.func67 rfl Tryz.ntmps67 Tryz.results67 rfl fun h0 G0 O0 => ?_
  (repeat' (first|(show CA _ _ (Code.region 1 _ _) _ _;apply Stopped.out)|refine Sp.h ?_|refine Lk.r rfl ?_|refine Rf.mk rfl ?_|refine All.mk fun _=>?_|fail));any_goals apply Stopped.mk
  refine CA.freezeB 2 rfl (by repeat constructor) ?_
  repeat' (first|refine Sp.h ?_|refine Lk.r rfl ?_|refine Rf.mk rfl ?_|refine OpK.r rfl ?_|refine All.mk fun _=>?_|refine xU ?_|refine xT ?_|refine xI ?_|refine xJ ?_|(apply Fk.r;focus repeat' first|infer_instance|constructor)|refine Rf.mk ⟨rfl, rfl, rfl⟩ ?_|refine xD ?_|fail)
  (refine Cl.use (hv) (by repeat' (first|exact Lend.nil|apply Lend.keep|fail)) .nil rfl ?_;rintro _ _ ⟨_, rfl, rfl⟩)
  repeat' (first|refine Sp.h ?_|refine Lk.r rfl ?_|refine OpK.r rfl ?_|refine xN ?_|fail)
  exact ⟨_, _, .one (.same (.z)), _, rfl, rfl⟩
 ·obtain ⟨x, hx⟩ := get_of (l := B) (i := j) (by omega)
  have hv := vals2_o S B V j x hx
  rw [show valQ S B V (1, (j : Int)) = [if x then 1 else 0] by simp [valQ, hx]]
  have hq : (fnQ S B V)[1]? = some [.fn 139 [.ad (snpC S B V) 0]] := rfl
  refine CallA.of pg ord67 Tryz.func67 rfl Tryz.ntmps67 Tryz.results67 rfl fun h0 G0 O0 => ?_
  (repeat' (first|(show CA _ _ (Code.region 1 _ _) _ _;apply Stopped.out)|refine Sp.h ?_|refine Lk.r rfl ?_|refine Rf.mk rfl ?_|refine All.mk fun _=>?_|fail));any_goals apply Stopped.mk
  refine CA.freezeB 2 rfl (by repeat constructor) ?_
  repeat' (first|refine Sp.h ?_|refine Lk.r rfl ?_|refine Rf.mk rfl ?_|refine OpK.r rfl ?_|refine All.mk fun _=>?_|refine xU ?_|refine xT ?_|refine xI ?_|refine xJ ?_|(apply Fk.r;focus repeat' first|infer_instance|constructor)|refine Rf.mk ⟨rfl, rfl, rfl⟩ ?_|refine xD ?_|fail)
  (refine Cl.use (hv) (by repeat' (first|exact Lend.nil|apply Lend.keep|fail)) .nil rfl ?_;rintro _ _ ⟨_, rfl, rfl⟩)
  repeat' (first|refine Sp.h ?_|refine Lk.r rfl ?_|refine OpK.r rfl ?_|refine xN ?_|fail)
  exact ⟨_, _, .one (.same (.z)), _, rfl, rfl⟩
 ·obtain ⟨x, hx⟩ := get_of (l := V) (i := j) (by omega)
  have hv := vals3_o S B V j x hx (hl x (List.mem_of_getElem? hx))
  rw [show valQ S B V (2, (j : Int)) = x by simp [valQ, hx]]
  have hq : (fnQ S B V)[2]? = some [.fn 140 [.ad (snpC S B V) 0]] := rfl
  refine CallA.of pg ord67 Tryz.func67 rfl Tryz.ntmps67 Tryz.results67 rfl fun h0 G0 O0 => ?_
  (repeat' (first|(show CA _ _ (Code.region 1 _ _) _ _;apply Stopped.out)|refine Sp.h ?_|refine Lk.r rfl ?_|refine Rf.mk rfl ?_|refine All.mk fun _=>?_|fail));any_goals apply Stopped.mk
  refine CA.freezeB 2 rfl (by repeat constructor) ?_
  repeat' (first|refine Sp.h ?_|refine Lk.r rfl ?_|refine Rf.mk rfl ?_|refine OpK.r rfl ?_|refine All.mk fun _=>?_|refine xU ?_|refine xT ?_|refine xI ?_|refine xJ ?_|(apply Fk.r;focus repeat' first|infer_instance|constructor)|refine Rf.mk ⟨rfl, rfl, rfl⟩ ?_|refine xD ?_|fail)
  (refine Cl.use (hv) (by repeat' (first|exact Lend.nil|apply Lend.keep|fail)) .nil rfl ?_;rintro _ _ ⟨_, rfl, rfl⟩)
  repeat' (first|refine Sp.h ?_|refine Lk.r rfl ?_|refine OpK.r rfl ?_|refine xN ?_|fail)
  exact ⟨_, _, .one (.same (.z)), _, rfl, rfl⟩
end Go.Proofs.YtmjllbjfkafhdaaGreatDoor
namespace Go.Proofs.YtmjllbjfkafhdaaGreatDoor
open Go Go.CF
set_option maxRecDepth 20000
structure ClE where
 c : List Int
 w : Value
def cleC (x : ClE) : List AV := [.ow x.w]
abbrev cleR (x : ClE) : Res := arrR x.w 3 1 x.c intC
def clsR (v : Value) (L : List ClE) : List Res := [arrR v 22 1 L cleC, bunR (L.map cleR)]
theorem flat_cls {v : Value} {L : List ClE} : ∀ R ∈ clsR v L, FlatR R := fun R hR => by
 rcases List.mem_cons.1 hR with rfl|hR
 ·exact FlatR.arr fun x _ => .cons (.ow _) .nil
 ·rw [List.mem_singleton.1 hR]
  refine FlatR.bun fun R hR => ?_
  obtain ⟨x, _, rfl⟩ := List.mem_map.1 hR
  exact flat_ints
theorem flat_o3 {l : List Int} : ∀ (r : AV) (own : List Res), (∃ u, r = .ow u ∧ own = [arrR u 3 1 l intC]) → FlatV r ∧ ∀ R ∈ own, FlatR R := by
 rintro _ _ ⟨u, rfl, rfl⟩
 exact ⟨FlatV.ow _, fun R hR => by rw [List.mem_singleton.1 hR];exact flat_ints⟩
end Go.Proofs.YtmjllbjfkafhdaaGreatDoor
namespace Go.Proofs.YtmjllbjfkafhdaaGreatDoor
open Go Go.CF
set_option maxRecDepth 20000
def RdK (code : Int) (rows : List (List Int)) (r : AV) (own : List Res) : Prop :=
 (code ≠ 0 ∧ r = .tup [nl0, it code] ∧ own = []) ∨ (code = 0 ∧ ∃ v L, r = .tup [.ow v, it 0] ∧ own = clsR v L ∧ L.map ClE.c = rows)
noncomputable def rdF (m : ModS) (b : NowS) (l : List EvS) (w : NowS) (c : List Int) (qs : List QryS) : Int := if QrysX m qs then chkF b.clock l w.clock c else 1
noncomputable def rowsF (m : ModS) (b : NowS) (l : List EvS) (c : List Int) (qs : List QryS) : List (List Int) := qs.map (valQ (snpS m b l c) (visL m (snpS m b l c)) (snpV m b l c))
structure SnpOK (m : ModS) (b : NowS) (l : List EvS) (c : List Int) : Prop where
 n : (snpV m b l c).length = (mrgF m).length
 r : ∀ x ∈ snpV m b l c, x.length ≤ 100000
theorem mrgF_sum {m : ModS} (hm : LayOK m.sorts m.tables) : ((mrgF m).length : Int) = sumK m.sorts false m.tables := by
 have key : ∀ l : List TblS, (∀ t ∈ l, t ∈ m.tables) → ((mrgL m l).length : Int) = sumK m.sorts false l := by
  intro l
  induction l with
  | nil => intro _;rfl
  | cons t l ih =>
   intro h
   have ih := ih fun t ht => h t (by simp [ht])
   have hc := (hm.2.2.2 t (h t (by simp))).1
   have h1 := (sz_fit hc).1
   unfold mrgL sumK at ih ⊢
   simp only [List.map_cons, List.sum_cons, List.flatMap_cons, List.length_append]
   rw [← ih]
   by_cases hs : isStrict t.kind
   ·rw [if_pos hs, if_neg (by simp [hs])];simp
   ·rw [if_neg hs, if_pos (by simp [hs]), numF, if_pos hc, List.length_replicate];omega
 exact key m.tables fun _ h => h
theorem rgs_s {m : ModS} (hx : ValX m) : (rgsF m true).length = strF m := by
 rw [rgsF, if_pos hx];exact strR_len hx.lay
theorem rgs_m {m : ModS} (hx : ValX m) : (rgsF m false).length = (mrgF m).length := by
 have h1 := mrgF_sum hx.lay.ok
 have h2 := rngL_len m.sorts false m.tables
 rw [rgsF, if_pos hx, rngF, if_pos hx.lay];omega
theorem valK_of {m : ModS} {b : NowS} {l : List EvS} {c : List Int} (hx : ValX m) (hb : b.state.length = strF m) (hs : SnpOK m b l c) {q : QryS} (hq : QryK (rgsF m true).length (rgsF m false).length q) : ValK (snpS m b l c) (visL m (snpS m b l c)) (snpV m b l c) q := by
 obtain ⟨h1, h2⟩ := hq
 rw [rgs_s hx, rgs_m hx] at h2
 have hsl : (snpS m b l c).length = strF m := by rw [snpS, addEf_len, hb]
 have hvl : (visL m (snpS m b l c)).length = strF m := by simp [visL, hsl]
 refine ⟨h1, ?_, hs.r⟩
 unfold cntKd at h2
 rw [hsl, hvl, hs.n]
 by_cases h0 : q.1 = 0 ∨ q.1 = 1
 ·rw [if_pos h0] at h2
  rcases h0 with h0|h0
  ·exact .inl ⟨h0, h2⟩
  ·exact .inr (.inl ⟨h0, h2⟩)
 ·rw [if_neg h0] at h2
  by_cases h3 : q.1 = 2
  ·rw [if_pos h3] at h2
   exact .inr (.inr ⟨h3, h2⟩)
  ·rw [if_neg h3] at h2;omega
set_option maxHeartbeats 8000000 in
theorem sread_g (m : ModS) (b : NowS) (l : List EvS) (w : NowS) (c : List Int) (qs : List QryS) (h : ShwS b l w) (hm : MOK m) (hur : UpdsRg m) (hb : b.state.length = strF m) (hev : ∀ e ∈ l, EvV m (w.clock.length : Nat) e) (hsn : ValX m → SnpOK m b l c) (hql : qs.length ≤ 1000000) :
  CallG Tryz.prog 16 [mdl m, .ad (stoV m b l w) 0, ints c, qrys qs] [] (RdK (rdF m b l w c qs) (rowsF m b l c qs)) := by
 have hol : m.ops.length ≤ 1000000000 := by have := hm.ops;omega
 have hv := svalid_g m qs hol hur
 have hck := scheck_p m b l w c h
 by_cases hq : QrysX m qs
 rotate_left
 ·rw [rdF, if_neg hq]
  rw [decide_eq_false hq] at hv
  refine CallG.of pg ord16 Tryz.func16 rfl Tryz.ntmps16 Tryz.results16 rfl fun h0 G0 O0 ga => ?_
  repeat' (first|refine Sp.h ?_|refine Lk.r rfl ?_|refine Rf.mk rfl ?_|refine xB ?_|refine All.mk fun _=>?_|refine xT ?_|refine Ch.l ⟨rfl, rfl⟩ ?_|refine xN ?_|(apply Cl.pG (hv);(focus exact ga);focus (repeat' constructor);done))
  exact ⟨_, _, .tup (.same (.same (.z))), .inl ⟨by decide, rfl, rfl⟩⟩
 rw [rdF, if_pos hq]
 rw [decide_eq_true hq] at hv
 by_cases hc0 : chkF b.clock l w.clock c = 0
 rotate_left
 ·refine CallG.of pg ord16 Tryz.func16 rfl Tryz.ntmps16 Tryz.results16 rfl fun h0 G0 O0 ga => ?_
  repeat' (first|refine Sp.h ?_|refine Lk.r rfl ?_|refine Rf.mk rfl ?_|refine xA ?_|refine xB ?_|refine All.mk fun _=>?_|refine xT ?_|refine Ch.l ⟨rfl, rfl⟩ ?_|refine xN ?_|(apply Cl.pG (hv);(focus exact ga);focus (repeat' constructor);done)|(apply Cl.p (hck);focus (repeat' constructor);done))
  ·exact ⟨_, _, .tup (.same (.same (.z))), .inl ⟨hc0, rfl, rfl⟩⟩
  all_goals exact absurd (by omega) hc0
 have hta := stake_g m b l w c h hm hq.1 hol hur hb hev
 have hsn := hsn hq.1
 have hvk := fun q (hqm : q ∈ qs) => valK_of hq.1 hb hsn (hq.2 q hqm)
 rw [hc0] at hck ⊢
 unfold rowsF
 generalize snpS m b l c = S at hta hvk ⊢
 generalize snpV m b l c = V at hta hvk ⊢
 generalize visL m S = B at hta hvk ⊢
 refine CallG.of pg ord16 Tryz.func16 rfl Tryz.ntmps16 Tryz.results16 rfl fun h0 G0 O0 ga => ?_
 repeat' (first|refine Sp.h ?_|refine Lk.r rfl ?_|refine Rf.mk rfl ?_|refine xA ?_|refine All.mk fun _=>?_|refine xT ?_|refine Ch.l ⟨rfl, rfl⟩ ?_|(apply Cl.pG (hv);(focus exact ga);focus (repeat' constructor);done)|(apply Cl.p (hck);focus (repeat' constructor);done))
 all_goals try exact (by omega : False).elim
 repeat' (first|refine Sp.h ?_|refine Lk.r rfl ?_|refine Rf.mk rfl ?_|refine Im.mk fun _=>?_|refine All.mk fun _=>?_|refine xT ?_|(apply SetAsk.r;focus repeat' constructor)|refine xN ?_|(apply Cl.pG (hta);(focus exact ga);focus (repeat' constructor);done))
 rename_i b11 _
 refine CA.nilOwn 12 22 1 cleC rfl fun v => ?_
 apply CA.bunNil cleR
 refine CA.loop (fun z : Nat × Value × List ClE => ⟨[(11, pm b11), (12, .ow z.2.1), (29, qrys qs), (30, it (qs.length : Nat)), (31, it z.1)], [blkR b11 121 (snpC S B V), arrR z.2.1 22 1 z.2.2 cleC, bunR (z.2.2.map cleR)]⟩)
  (fun z => z.1 ≤ qs.length ∧ z.2.2.map ClE.c = (qs.take z.1).map (valQ S B V)) (fun z => qs.length - z.1) (0, v, []) xE ⟨Nat.zero_le _, rfl⟩ ?_
 rintro ⟨i, u, L⟩ ⟨hi, hL⟩
 simp only at hi hL
 simp only
 by_cases hin : i < qs.length
 ·obtain ⟨q, hqq⟩ := get_of hin
  have hLl : L.length = i := by have := congrArg List.length hL;simp at this;omega
  have hva := svalues_o S B V q (hvk q (List.mem_of_getElem? hqq))
  have hsu : (qs.take (i + 1)).map (valQ S B V) = (qs.take i).map (valQ S B V) ++ [valQ S B V q] := by rw [List.take_add_one, hqq];simp
  repeat' (first|refine Sp.h ?_|refine Lk.r rfl ?_|refine Rf.mk rfl ?_|refine xA ?_|refine All.mk fun _=>?_|refine xT ?_|refine xI ?_|refine Ch.l ⟨rfl, rfl⟩ ?_|(apply SetAsk.r;focus repeat' constructor)|refine xN ?_|fail)
  (refine Cl.use (hva) (by repeat' (first|exact Lend.nil|apply Lend.keep|fail)) .nil rfl ?_;rintro _ _ ⟨_, rfl, rfl⟩)
  rename_i x
  have inv : Inv cleC [.ow x] ⟨valQ S B V q, x⟩ := ⟨rfl⟩
  (repeat' (first|(show CA _ _ (Code.region 12 _ _) _ _;apply Stopped.out)|refine Sp.h ?_|refine Lk.r rfl ?_|refine Rf.mk rfl ?_|refine xP ?_|refine All.mk fun _=>?_|refine xU ?_|refine Ce.r ?_|(apply Fk.r;focus repeat' first|infer_instance|constructor)|refine Rf.mk ⟨rfl, rfl⟩ ?_|refine Rf.mk ⟨rfl, rfl, rfl⟩ ?_|(apply Mp.lit;(focus repeat (first|exact MpL.nil|(apply MpL.cons;(focus rfl))|(apply MpL.inv;(focus repeat constructor);(focus infer_instance)))))|fail));any_goals apply Stopped.mk
  apply CA.bunPush (l := L) (g := cleR) (x := ⟨valQ S B V q, x⟩)
  focus (repeat constructor)
  focus (repeat constructor)
  repeat' (first|refine Sp.h ?_|refine Lk.r rfl ?_|refine Rf.mk rfl ?_|refine xO ?_|fail)
  exact PA.lp (i + 1, _, L ++ [⟨valQ S B V q, x⟩]) xE ⟨⟨hin, by simp only;rw [List.map_append, hL, hsu];rfl⟩, by simp only;omega⟩
 ·have : i = qs.length := by omega
  subst this
  rw [List.take_length] at hL
  repeat' (first|refine Sp.h ?_|refine Lk.r rfl ?_|refine Rf.mk rfl ?_|refine xB ?_|refine xN ?_|fail)
  exact ⟨_, _, .tup (.same (.same (.z))), .inr ⟨rfl, u, L, rfl, rfl, hL⟩⟩
end Go.Proofs.YtmjllbjfkafhdaaGreatDoor
namespace Go.CF
open Go
theorem Cl.lendOG {Γ : Cx} {c : Cls} {o : List Res} {f : FuncId} {asx as' : List AV} {K : AV → List Res → Prop} {M : AV → List Res → Prop} (hc : CallG Γ.P f as' [] K) (ga : AmbF Γ.P Γ.h0 Γ.G0 Γ.O0) (hl : Lend o asx as') (hK : ∀ r own, K r own → FlatV r ∧ ∀ R ∈ own, FlatR R) (hm : ∀ r own, K r own → M r (own ++ o)) : Cl Γ c f asx o M := by
 refine ⟨fun {h G Os vs} hp hr => ?_⟩
 have hin : HpOK h (fun b => G b ∨ U Os b) (U []) [] h (fun b => G b ∨ U Os b) [] :=
  ⟨trivial, fun b hb => ⟨hb.elim (fun h9 => (hp.g b h9).1) (fun ⟨O, hO, h9⟩ => (hp.o O hO b h9).1), .inl hb⟩, fun _ h => h, fun O hO => (by cases hO), List.Pairwise.nil, FPx.refl h⟩
 refine (hc.run h _ [] vs (hl.rep hp.own hr) hin ((ga _ _ _ _ hp).mono (FPx.refl h) fun _ => .inl)).mono fun v h' ⟨r', own', G', Os', hk, g3, g4⟩ => ?_
 obtain ⟨f1, f2⟩ := hK _ _ hk
 have hst : Stp ([] : List Nat) h h' := ⟨g4.fp.size, fun b hb _ => g4.fp.same b (fun ⟨O, hO, _⟩ => by cases hO) hb⟩
 have hx : ∀ S, FPx S h h' := fun S => ⟨hst.size, fun b _ hb => hst.same b hb (by simp)⟩
 have hs := hp.fp.size
 have hs' := hst.size
 have hnew : ∀ O ∈ Os', ∀ b, O b → h.size ≤ b := fun O hO b hb => by
  rcases (g4.o O hO b hb).2.1 with ⟨O2, hO2, _⟩|h9
  ·cases hO2
  ·exact h9
 refine ⟨.inr hst, r', own' ++ o, G, Os' ++ Os, hm _ _ hk, f1.h g3, ⟨(FlatR.own f2 g4.own).app (OwnL.stp (fun O _ => hx _) hp.own), fun b hb => ⟨by have := (hp.g b hb).1;omega, (hp.g b hb).2.imp id fun q => ⟨q.1, q.2.eq (hst.same b (hp.g b hb).1 (by simp))⟩⟩, hp.g0, fun O hO b hb => ?_, List.pairwise_append.2 ⟨g4.d, hp.d, fun A hA B hB b ha hb => ?_⟩, ⟨by omega, fun b hb hl => ?_⟩⟩, hx G, fun _ h => h⟩
 ·rcases List.mem_append.1 hO with hO|hO
  ·have := hnew O hO b hb
   exact ⟨(g4.o O hO b hb).1, .inr (by omega), fun hg => by have := (hp.g b hg).1;omega⟩
  ·exact ⟨by have := (hp.o O hO b hb).1;omega, (hp.o O hO b hb).2⟩
 ·have := hnew A hA b ha
  have := (hp.o B hB b hb).1
  omega
 ·rw [hst.same b (by omega) (by simp)]
  exact hp.fp.same b hb hl
end Go.CF
namespace Go.Proofs.YtmjllbjfkafhdaaGreatDoor
open Go Go.CF
set_option maxRecDepth 20000
def NwK (code : Int) (rows : List (List Int)) (wc : List Int) (r : AV) (own : List Res) : Prop :=
 (code ≠ 0 ∧ r = .tup [nl0, nl0, it code] ∧ own = []) ∨ (code = 0 ∧ ∃ v L u, r = .tup [.ow v, .ow u, it 0] ∧ own = clsR v L ++ [arrR u 3 1 wc intC] ∧ L.map ClE.c = rows)
theorem flat_rd {code : Int} {rows : List (List Int)} : ∀ (r : AV) (own : List Res), RdK code rows r own → FlatV r ∧ ∀ R ∈ own, FlatR R := by
 rintro r own (⟨_, rfl, rfl⟩|⟨_, v, L, rfl, rfl, _⟩)
 ·exact ⟨FlatV.tup (.cons (.val _) (.cons (.val _) .nil)), fun R hR => by cases hR⟩
 ·exact ⟨FlatV.tup (.cons (.ow _) (.cons (.val _) .nil)), flat_cls⟩
theorem cls_fx {v : Value} {L : List ClE} (hl : L.length ≤ 1000000) (hm : ∀ x ∈ L, x.c.length ≤ 1000000) {l l' : List AV} {o own : List Res} (ht : FX o l l' own) : FX (clsR v L ++ o) (.ow v :: l) (clks (L.map ClE.c) :: l') own := by
 refine .sl .here (by omega) (.unb .here ?_) ht
 refine FX.rows (o := o) (r := cleR) (f := cleC) (g := clkC) (φ := ClE.c) L fun x hx o' => ?_
 have := hm x hx
 exact .sl .here (by omega) (FX.refl _) (FX.refl _)
set_option maxHeartbeats 4000000 in
theorem snow_g (m : ModS) (b : NowS) (l : List EvS) (w : NowS) (qs : List QryS) (h : ShwS b l w) (hm : MOK m) (hur : UpdsRg m) (hb : b.state.length = strF m) (hev : ∀ e ∈ l, EvV m (w.clock.length : Nat) e) (hsn : ValX m → SnpOK m b l w.clock) (hql : qs.length ≤ 1000000) :
  CallG Tryz.prog 18 [mdl m, .ad (stoV m b l w) 0, qrys qs] [] (NwK (rdF m b l w w.clock qs) (rowsF m b l w.clock qs) w.clock) := by
 have hol : m.ops.length ≤ 1000000000 := by have := hm.ops;omega
 have hv := svalid_g m qs hol hur
 have hcl := sclock_r m b w l h.ck
 have hrd := sread_g m b l w w.clock qs h hm hur hb hev hsn hql
 have hck9 := h.ck
 by_cases hq : QrysX m qs
 rotate_left
 ·rw [rdF, if_neg hq]
  rw [decide_eq_false hq] at hv
  refine CallG.of pg ord18 Tryz.func18 rfl Tryz.ntmps18 Tryz.results18 rfl fun h0 G0 O0 ga => ?_
  repeat' (first|refine Sp.h ?_|refine Lk.r rfl ?_|refine Rf.mk rfl ?_|refine xB ?_|refine All.mk fun _=>?_|refine xT ?_|refine Ch.l ⟨rfl, rfl⟩ ?_|refine xN ?_|(apply Cl.pG (hv);(focus exact ga);focus (repeat' constructor);done))
  exact ⟨_, _, .tup (.same (.same (.same (.z)))), .inl ⟨by decide, rfl, rfl⟩⟩
 rw [decide_eq_true hq] at hv
 generalize rowsF m b l w.clock qs = rows at hrd ⊢
 generalize rdF m b l w w.clock qs = code at hrd ⊢
 refine CallG.of pg ord18 Tryz.func18 rfl Tryz.ntmps18 Tryz.results18 rfl fun h0 G0 O0 ga => ?_
 repeat' (first|refine Sp.h ?_|refine Lk.r rfl ?_|refine Rf.mk rfl ?_|refine xA ?_|refine All.mk fun _=>?_|refine xT ?_|refine Ch.l ⟨rfl, rfl⟩ ?_|(apply Cl.pG (hv);(focus exact ga);focus (repeat' constructor);done))
 all_goals try exact (by assumption : False).elim
 (refine Cl.use (hcl) (by repeat' (first|exact Lend.nil|apply Lend.keep|fail)) .nil rfl ?_;rintro _ _ ⟨_, rfl, rfl⟩)
 repeat' (first|refine Sp.h ?_|refine Lk.r rfl ?_|refine Rf.mk rfl ?_|refine xT ?_|refine Ch.l ⟨rfl, rfl⟩ ?_|fail)
 refine Cl.lendOG hrd ga (by repeat' (first|exact Lend.nil|apply Lend.keep|(apply Lend.lend;(focus repeat constructor);(focus first|omega|(simp;omega)))|fail)) flat_rd ?_
 rintro _ _ (⟨hne, rfl, rfl⟩|⟨rfl, v, L, rfl, rfl, hL⟩)
 ·repeat' (first|refine Sp.h ?_|refine Lk.r rfl ?_|refine Rf.mk rfl ?_|refine xB ?_|refine xN ?_|fail)
  ·exact ⟨_, _, .tup (.same (.same (.same (.z)))), .inl ⟨hne, rfl, rfl⟩⟩
  all_goals exact absurd (by omega) hne
 ·repeat' (first|refine Sp.h ?_|refine Lk.r rfl ?_|refine Rf.mk rfl ?_|refine xA ?_|refine xN ?_|fail)
  all_goals try exact (by omega : False).elim
  exact ⟨_, _, .tup (.same (.same (.same (.z)))), .inr ⟨rfl, v, L, _, rfl, rfl, hL⟩⟩
end Go.Proofs.YtmjllbjfkafhdaaGreatDoor
namespace Go.Proofs.YtmjllbjfkafhdaaGreatDoor
open Go Go.CF
set_option maxRecDepth 20000
structure StoQ where
 m : ModS
 b : NowS
 l : List EvS
 w : NowS
def sqC : Option StoQ → List AV
 | none => [.val (.pointer none)]
 | some s => [.ad (stoV s.m s.b s.l s.w) 0]
instance : Inhabited StoQ := ⟨⟨⟨[], [], [], [], [], [], []⟩, ⟨[], 0, [], [], []⟩, [], ⟨[], 0, [], [], []⟩⟩⟩
def sclkF (L : List (Option StoQ)) : List (List Int) := L.map fun s => (s.getD default).w.clock
def AheadC (L : List (Option StoQ)) (c : List Int) : Prop := ∃ s, some s ∈ L ∧ ¬ ConC c s.b.clock
noncomputable instance (L : List (Option StoQ)) (c : List Int) : Decidable (AheadC L c) := Classical.propDecidable _
noncomputable instance (L : List (Option StoQ)) : Decidable (none ∈ L ∨ ¬ AlikeC (sclkF L)) := Classical.propDecidable _
noncomputable def comF (L : List (Option StoQ)) : Int :=
 if none ∈ L ∨ ¬ AlikeC (sclkF L) then 1 else if AheadC L (foldC min (sclkF L)) then 7 else 0
def ComK (code : Int) (c : List Int) (r : AV) (own : List Res) : Prop :=
 (code ≠ 0 ∧ r = .tup [nl0, it code] ∧ own = []) ∨ (code = 0 ∧ ∃ u, r = .tup [.ow u, it 0] ∧ own = [arrR u 3 1 c intC])
set_option maxHeartbeats 8000000 in
theorem scommon_a (L : List (Option StoQ)) (hL : L.length ≤ 1000000) (h : ∀ s, some s ∈ L → ShwS s.b s.l s.w) : CallA Tryz.prog 39 [.sl 1 L sqC] [] (ComK (comF L) (foldC min (sclkF L))) := by
 refine CallA.of pg ord39 Tryz.func39 rfl Tryz.ntmps39 Tryz.results39 rfl fun h0 G0 O0 => ?_
 repeat' (first|refine Sp.h ?_|refine Lk.r rfl ?_|refine Rf.mk rfl ?_|refine Im.mk fun _=>?_|fail)
 refine CA.nilOwn 4 22 1 clkC rfl fun v => ?_
 refine CA.loop (fun z : Nat × Value => ⟨[(0, .sl 1 L sqC), (4, .ow z.2), (10, .sl 1 L sqC), (11, it (L.length : Nat)), (12, it z.1)], [arrR z.2 22 1 (sclkF (L.take z.1)) clkC]⟩)
  (fun z => z.1 ≤ L.length ∧ ∀ j s, j < z.1 → L[j]? = some s → s ≠ none) (fun z => L.length - z.1) (0, v) xE ⟨Nat.zero_le _, fun j s h => by simp only at h;omega⟩ ?_
 rintro ⟨i, u⟩ ⟨hi, hno⟩
 simp only at hi hno
 simp only
 by_cases hin : i < L.length
 ·obtain ⟨s, hs⟩ := get_of hin
  cases s with
  | none =>
   have hc : comF L = 1 := by rw [comF, if_pos (.inl (List.mem_of_getElem? hs))]
   rw [hc]
   repeat' (first|refine Sp.h ?_|refine Lk.r rfl ?_|refine Rf.mk rfl ?_|refine xA ?_|refine xI ?_|refine xN ?_|fail)
   exact ⟨_, _, .tup (.same (.same (.z))), .inl ⟨by decide, rfl, rfl⟩⟩
  | some s =>
   have hsh := h s (List.mem_of_getElem? hs)
   have hcl := sclock_z s.m s.b s.w s.l hsh.ck
   have hsl : (sclkF (L.take i)).length = i := by simp [sclkF];omega
   have hsu : sclkF (L.take (i + 1)) = sclkF (L.take i) ++ [s.w.clock] := by rw [sclkF, List.take_add_one, hs];simp [sclkF]
   repeat' (first|refine Sp.h ?_|refine Lk.r rfl ?_|refine Rf.mk rfl ?_|refine xA ?_|refine xP ?_|refine All.mk fun _=>?_|refine xU ?_|refine xI ?_|refine Ce.r ?_|(apply Fk.r;focus repeat' first|infer_instance|constructor)|refine Rf.mk ⟨rfl, rfl⟩ ?_|refine Rf.mk ⟨rfl, rfl, rfl⟩ ?_|(apply Mp.lit;(focus repeat (first|exact MpL.nil|(apply MpL.cons;(focus rfl))|(apply MpL.inv;(focus repeat constructor);(focus infer_instance)))))|refine xO ?_|(apply Cl.p (hcl);focus repeat' constructor))
   rw [← hsu]
   exact PA.lp (i + 1, _) xE ⟨⟨hin, alli_succ hs hno (by simp)⟩, by simp only;omega⟩
 ·have : i = L.length := by omega
  subst this
  rw [List.take_length]
  have hnn : none ∉ L := fun hm => by
   obtain ⟨j, hj⟩ := List.getElem?_of_mem hm
   exact hno j none (List.getElem?_eq_some_iff.1 hj).1 hj rfl
  have hsl : (sclkF L).length = L.length := by simp [sclkF]
  by_cases hal : AlikeC (sclkF L)
  rotate_left
  ·have hc : comF L = 1 := by rw [comF, if_pos (.inr hal)]
   have hme := meet_nil (sclkF L) hal
   rw [hc]
   repeat' (first|refine Sp.h ?_|refine Lk.r rfl ?_|refine Rf.mk rfl ?_|refine xB ?_|fail)
   (apply Cl.lend (hme);(focus repeat' (first|exact Lend.nil|(apply Lend.lend;(focus repeat constructor);(focus first|omega|(simp;omega)))|fail)))
   repeat' (first|refine Sp.h ?_|refine Lk.r rfl ?_|refine Rf.mk rfl ?_|refine xA ?_|refine xN ?_|fail)
   all_goals exact ⟨_, _, .tup (.same (.same (.z))), .inl ⟨by decide, rfl, rfl⟩⟩
  have hme := meet_o (sclkF L) hal
  have hCl : 0 < (foldC min (sclkF L)).length ∧ (foldC min (sclkF L)).length ≤ 5 := by
   obtain ⟨c0, hc0⟩ := get_of hal.1
   have h1 := hal.2 c0 (List.mem_of_getElem? hc0)
   have h2 := h1.1.2.1
   have h3 := h1.2
   have h4 := h1.1.2.2
   rw [fold_len hal]
   omega
  have hcF : comF L = if AheadC L (foldC min (sclkF L)) then 7 else 0 := by
   rw [comF, if_neg (fun h => h.elim hnn fun h => h hal)]
  generalize hC : foldC min (sclkF L) = C at hme hCl hcF ⊢
  repeat' (first|refine Sp.h ?_|refine Lk.r rfl ?_|refine Rf.mk rfl ?_|refine xB ?_|fail)
  refine Cl.lendO hme (by repeat' (first|exact Lend.nil|(apply Lend.lend;(focus repeat constructor);(focus first|omega|(simp;omega)))|fail)) flat_o3 ?_
  rintro _ _ ⟨q, rfl, rfl⟩
  repeat' (first|refine Sp.h ?_|refine Lk.r rfl ?_|refine Rf.mk rfl ?_|refine xB ?_|refine Im.mk fun _=>?_|refine xU ?_|fail)
  all_goals try exact (by omega : False).elim
  refine CA.loop (fun i : Nat => ⟨[(7, .ow q), (29, .sl 1 L sqC), (30, it (L.length : Nat)), (31, it i)], [arrR q 3 1 C intC]⟩)
   (fun i => i ≤ L.length ∧ ∀ j s, j < i → L[j]? = some s → ∀ q, s = some q → ConC C q.b.clock) (fun i => L.length - i) 0 xE ⟨Nat.zero_le _, fun j s h => by omega⟩ ?_
  rintro i ⟨hi, hco⟩
  by_cases hin2 : i < L.length
  ·obtain ⟨s, hs⟩ := get_of hin2
   cases s with
   | none => exact absurd (List.mem_of_getElem? hs) hnn
   | some s =>
    have hsh := h s (List.mem_of_getElem? hs)
    have hba := sbase_z s.m s.b s.l s.w hsh.bs
    have hcc := scontains_p C s.b.clock
    by_cases hcs : ConC C s.b.clock
    ·rw [decide_eq_true hcs] at hcc
     repeat' (first|refine Sp.h ?_|refine Lk.r rfl ?_|refine Rf.mk rfl ?_|refine xA ?_|refine xI ?_|(apply Cl.p (hba);focus repeat' constructor))
     (apply Cl.lend (hcc);(focus repeat' (first|exact Lend.nil|apply Lend.keep|(apply Lend.lend;(focus repeat constructor);(focus first|omega|(simp;omega)))|fail)))
     repeat' (first|refine Sp.h ?_|refine Lk.r rfl ?_|refine Rf.mk rfl ?_|refine xA ?_|refine xO ?_|fail)
     exact PA.lp (i + 1) xE ⟨⟨hin2, alli_succ hs hco fun q hq => by cases hq;exact hcs⟩, by omega⟩
    ·rw [decide_eq_false hcs] at hcc
     rw [hcF, if_pos ⟨s, List.mem_of_getElem? hs, hcs⟩]
     repeat' (first|refine Sp.h ?_|refine Lk.r rfl ?_|refine Rf.mk rfl ?_|refine xA ?_|refine xI ?_|(apply Cl.p (hba);focus repeat' constructor))
     (apply Cl.lend (hcc);(focus repeat' (first|exact Lend.nil|apply Lend.keep|(apply Lend.lend;(focus repeat constructor);(focus first|omega|(simp;omega)))|fail)))
     repeat' (first|refine Sp.h ?_|refine Lk.r rfl ?_|refine Rf.mk rfl ?_|refine xB ?_|refine xN ?_|fail)
     exact ⟨_, _, .tup (.same (.same (.z))), .inl ⟨by decide, rfl, rfl⟩⟩
  ·have : i = L.length := by omega
   subst this
   rw [hcF, if_neg fun ⟨s, hs, hcs⟩ => by
    obtain ⟨j, hj⟩ := List.getElem?_of_mem hs
    exact hcs (hco j _ (List.getElem?_eq_some_iff.1 hj).1 hj s rfl)]
   repeat' (first|refine Sp.h ?_|refine Lk.r rfl ?_|refine Rf.mk rfl ?_|refine xB ?_|refine xN ?_|fail)
   exact ⟨_, _, .tup (.same (.same (.z))), .inr ⟨rfl, _, rfl, rfl⟩⟩
end Go.Proofs.YtmjllbjfkafhdaaGreatDoor
namespace Go.Proofs.YtmjllbjfkafhdaaGreatDoor
open Go Go.CF
set_option maxRecDepth 20000
instance {a b : Int} : Inv qryC [it a, it b] (a, b) := ⟨rfl⟩
theorem svalQ_p (S : List Int) (B : List Bool) (V : List (List Int)) (q : QryS) (h : ValK S B V q) (hl : (valQ S B V q).length ≤ 100000) : CallP Tryz.prog 67 [.agg (snpC S B V), .agg (qryC q)] (ints (valQ S B V q)) := CallA.fz (by omega) (svalues_o S B V q h)
theorem valQ_len {S : List Int} {B : List Bool} {V : List (List Int)} (h : ∀ x ∈ V, x.length ≤ 100000) (q : QryS) : (valQ S B V q).length ≤ 100000 := by
 unfold valQ
 split
 ·simp
 ·split
  ·simp
  ·cases hx : V[q.2.toNat]? with
   | none => simp
   | some x => simpa using h x (List.mem_of_getElem? hx)
def chgF (S : List Int) (B : List Bool) (V : List (List Int)) (S' : List Int) (B' : List Bool) (V' : List (List Int)) (k : Int) (n : Nat) : List QryS :=
 ((List.range n).filter fun c : Nat => decide (valQ S B V (k, (c : Int)) ≠ valQ S' B' V' (k, (c : Int)))).map fun c : Nat => (k, (c : Int))
theorem chgF_succ (S : List Int) (B : List Bool) (V : List (List Int)) (S' : List Int) (B' : List Bool) (V' : List (List Int)) (k : Int) (n : Nat) : chgF S B V S' B' V' k (n + 1) = chgF S B V S' B' V' k n ++ if valQ S B V (k, (n : Int)) = valQ S' B' V' (k, (n : Int)) then [] else [(k, (n : Int))] := by
 unfold chgF
 rw [List.range_succ, List.filter_append, List.map_append]
 congr 1
 by_cases h : valQ S B V (k, (n : Int)) = valQ S' B' V' (k, (n : Int)) <;> simp [h]
theorem chgF_len {S : List Int} {B : List Bool} {V : List (List Int)} {S' : List Int} {B' : List Bool} {V' : List (List Int)} {k : Int} {n : Nat} : (chgF S B V S' B' V' k n).length ≤ n := by
 unfold chgF
 rw [List.length_map]
 exact Nat.le_trans (List.length_filter_le _ _) (by simp)
set_option maxHeartbeats 4000000 in
theorem schanged1_a (S : List Int) (B : List Bool) (V : List (List Int)) (S' : List Int) (B' : List Bool) (V' : List (List Int)) (k : Int) (n b : Nat) (v : Value) (L : List QryS) (hL : L.length ≤ 1000) (hn : n ≤ 1000) (h : ∀ c : Nat, c < n → ValK S B V (k, (c : Int)) ∧ ValK S' B' V' (k, (c : Int))) :
  CallA Tryz.prog 108 [it k, it n, .ad (snpC S B V) 0, .ad (snpC S' B' V') 0, pm b] [blkR b 33 [.ow v], arrR v 102 2 L qryC] fun r o => r = .tup [] ∧ ∃ v', o = [blkR b 33 [.ow v'], arrR v' 102 2 (L ++ chgF S B V S' B' V' k n) qryC] := by
 refine CallA.of pg ord108 Tryz.func108 rfl Tryz.ntmps108 Tryz.results108 rfl fun h0 G0 O0 => ?_
 repeat' (first|refine Sp.h ?_|refine Lk.r rfl ?_|refine Rf.mk rfl ?_|fail)
 refine CA.loop (fun z : Nat × Value => ⟨[(0, it k), (2, .ad (snpC S B V) 0), (3, .ad (snpC S' B' V') 0), (4, pm b), (9, it n), (10, it z.1)], [blkR b 33 [.ow z.2], arrR z.2 102 2 (L ++ chgF S B V S' B' V' k z.1) qryC]⟩)
  (fun z => z.1 ≤ n) (fun z => n - z.1) (0, v) ?_ (Nat.zero_le _) ?_
 ·rw [show chgF S B V S' B' V' k 0 = [] from rfl, List.append_nil]
  exact xE
 rintro ⟨i, u⟩ hi
 simp only at hi
 simp only
 by_cases hin : i < n
 ·obtain ⟨h1, h2⟩ := h i hin
  have hl1 := valQ_len (S := S) (B := B) h1.l (k, (i : Int))
  have hl2 := valQ_len (S := S') (B := B') h2.l (k, (i : Int))
  have hv1 := svalQ_p S B V (k, (i : Int)) h1 hl1
  have hv2 := svalQ_p S' B' V' (k, (i : Int)) h2 hl2
  have heq := equal_p (valQ S B V (k, (i : Int))) (valQ S' B' V' (k, (i : Int)))
  have hsu := chgF_succ S B V S' B' V' k i
  have hcl := chgF_len (S := S) (B := B) (V := V) (S' := S') (B' := B') (V' := V') (k := k) (n := i)
  by_cases hd : valQ S B V (k, (i : Int)) = valQ S' B' V' (k, (i : Int))
  ·rw [if_pos hd, List.append_nil] at hsu
   rw [← hsu]
   rw [decide_eq_true hd] at heq
   repeat' (first|refine Sp.h ?_|refine Lk.r rfl ?_|refine Rf.mk rfl ?_|refine xA ?_|refine OpK.r rfl ?_|refine All.mk fun _=>?_|refine xT ?_|refine Ch.l ⟨rfl, rfl⟩ ?_|(apply SetAsk.r;focus repeat' constructor)|(apply Fk.r;focus repeat' first|infer_instance|constructor)|refine xN ?_|refine xD ?_|refine xO ?_|(apply Cl.p (hv1);(focus ((repeat' (first|exact Lend.nil|apply Lend.keep|apply Lend.agg|fail));done)))|(apply Cl.p (hv2);(focus ((repeat' (first|exact Lend.nil|apply Lend.keep|apply Lend.agg|fail));done)))|(apply Cl.p (heq);(focus ((repeat' (first|exact Lend.nil|apply Lend.keep|apply Lend.agg|fail));done))))
   exact PA.lp (i + 1, u) xE ⟨hin, by simp only;omega⟩
  ·rw [if_neg hd] at hsu
   rw [decide_eq_false hd] at heq
   repeat' (first|refine Sp.h ?_|refine Lk.r rfl ?_|refine Rf.mk rfl ?_|refine xA ?_|refine xB ?_|refine OpK.r rfl ?_|refine xP ?_|refine All.mk fun _=>?_|refine xU ?_|refine xT ?_|refine Ce.r ?_|refine Ch.l ⟨rfl, rfl⟩ ?_|refine xV ?_|(apply SetAsk.r;focus repeat' constructor)|(apply Fk.r;focus repeat' first|infer_instance|constructor)|refine xN ?_|refine Rf.mk ⟨rfl, rfl⟩ ?_|refine Rf.mk ⟨rfl, rfl, rfl⟩ ?_|(apply Mp.lit;(focus repeat (first|exact MpL.nil|(apply MpL.cons;(focus rfl))|(apply MpL.inv;(focus repeat constructor);(focus infer_instance)))))|refine xD ?_|refine xO ?_|(apply Cl.p (hv1);(focus ((repeat' (first|exact Lend.nil|apply Lend.keep|apply Lend.agg|fail));done)))|(apply Cl.p (hv2);(focus ((repeat' (first|exact Lend.nil|apply Lend.keep|apply Lend.agg|fail));done)))|(apply Cl.p (heq);(focus ((repeat' (first|exact Lend.nil|apply Lend.keep|apply Lend.agg|fail));done))))
   rw [List.append_assoc, ← hsu]
   exact PA.lp (i + 1, _) xE ⟨hin, by simp only;omega⟩
 ·have : i = n := by omega
  subst this
  repeat' (first|refine Sp.h ?_|refine Lk.r rfl ?_|refine Rf.mk rfl ?_|refine xB ?_|refine xN ?_|fail)
  exact ⟨_, _, .tup (.z), rfl, u, rfl⟩
end Go.Proofs.YtmjllbjfkafhdaaGreatDoor
namespace Go.Proofs.YtmjllbjfkafhdaaGreatDoor
open Go Go.CF
set_option maxRecDepth 20000
def ChgK (code : Int) (rows : List QryS) (r : AV) (own : List Res) : Prop :=
 (code ≠ 0 ∧ r = .tup [nl0, it code] ∧ own = []) ∨ (code = 0 ∧ ∃ v, r = .tup [.ow v, it 0] ∧ own = [arrR v 102 2 rows qryC])
noncomputable def chgC (m : ModS) (b : NowS) (l : List EvS) (w : NowS) (a c : List Int) : Int :=
 if ValX m then (if chkF b.clock l w.clock a = 0 then chkF b.clock l w.clock c else chkF b.clock l w.clock a) else 1
noncomputable def chgR (m : ModS) (b : NowS) (l : List EvS) (a c : List Int) : List QryS :=
 chgF (snpS m b l a) (visL m (snpS m b l a)) (snpV m b l a) (snpS m b l c) (visL m (snpS m b l c)) (snpV m b l c) 0 (strF m) ++
 chgF (snpS m b l a) (visL m (snpS m b l a)) (snpV m b l a) (snpS m b l c) (visL m (snpS m b l c)) (snpV m b l c) 2 (mrgF m).length
set_option maxHeartbeats 8000000 in
theorem schanged_g (m : ModS) (b : NowS) (l : List EvS) (w : NowS) (a c : List Int) (h : ShwS b l w) (hm : MOK m) (hur : UpdsRg m) (hb : b.state.length = strF m) (hev : ∀ e ∈ l, EvV m (w.clock.length : Nat) e) (hsa : ValX m → SnpOK m b l a) (hsc : ValX m → SnpOK m b l c) :
  CallG Tryz.prog 45 [mdl m, .ad (stoV m b l w) 0, ints a, ints c] [] (ChgK (chgC m b l w a c) (chgR m b l a c)) := by
 have hol : m.ops.length ≤ 1000000000 := by have := hm.ops;omega
 have hv := mvalid_g m hol hur
 by_cases hx : ValX m
 rotate_left
 ·rw [chgC, if_neg hx]
  rw [decide_eq_false hx] at hv
  refine CallG.of pg ord45 Tryz.func45 rfl Tryz.ntmps45 Tryz.results45 rfl fun h0 G0 O0 ga => ?_
  repeat' (first|refine Sp.h ?_|refine Lk.r rfl ?_|refine Rf.mk rfl ?_|refine xB ?_|refine All.mk fun _=>?_|refine xT ?_|refine Ch.l ⟨rfl, rfl⟩ ?_|refine xN ?_|(apply Cl.pG (hv);(focus exact ga);focus (repeat' constructor);done))
  exact ⟨_, _, .tup (.same (.same (.z))), .inl ⟨by decide, rfl, rfl⟩⟩
 rw [chgC, if_pos hx]
 rw [decide_eq_true hx] at hv
 have hka := scheck_p m b l w a h
 have hkc := scheck_p m b l w c h
 have hta := stake_g m b l w a h hm hx hol hur hb hev
 have htc := stake_g m b l w c h hm hx hol hur hb hev
 have hsl : (snpS m b l a).length = strF m := by rw [snpS, addEf_len, hb]
 have hsl2 : (snpS m b l c).length = strF m := by rw [snpS, addEf_len, hb]
 have hvl : (snpV m b l a).length = (mrgF m).length := (hsa hx).n
 have hvk : ∀ j : Nat, (j < strF m → ValK (snpS m b l a) (visL m (snpS m b l a)) (snpV m b l a) (0, (j : Int)) ∧ ValK (snpS m b l c) (visL m (snpS m b l c)) (snpV m b l c) (0, (j : Int))) ∧ (j < (mrgF m).length → ValK (snpS m b l a) (visL m (snpS m b l a)) (snpV m b l a) (2, (j : Int)) ∧ ValK (snpS m b l c) (visL m (snpS m b l c)) (snpV m b l c) (2, (j : Int))) := fun j =>
  ⟨fun hj => ⟨⟨by omega, .inl ⟨rfl, by simp only;omega⟩, (hsa hx).r⟩, ⟨by omega, .inl ⟨rfl, by simp only;omega⟩, (hsc hx).r⟩⟩, fun hj => ⟨⟨by omega, .inr (.inr ⟨rfl, by have := (hsa hx).n;simp only;omega⟩), (hsa hx).r⟩, ⟨by omega, .inr (.inr ⟨rfl, by have := (hsc hx).n;simp only;omega⟩), (hsc hx).r⟩⟩⟩
 have hstr := hm.str
 have hmr := hm.mrg
 unfold chgR
 generalize snpS m b l a = S at hta hsl hvk ⊢
 generalize snpV m b l a = V at hta hvl hvk ⊢
 generalize visL m S = B at hta hvk ⊢
 generalize snpS m b l c = S' at htc hsl2 hvk ⊢
 generalize snpV m b l c = V' at htc hvk ⊢
 generalize visL m S' = B' at htc hvk ⊢
 generalize chkF b.clock l w.clock a = ka at hka ⊢
 generalize chkF b.clock l w.clock c = kc at hkc ⊢
 refine CallG.of pg ord45 Tryz.func45 rfl Tryz.ntmps45 Tryz.results45 rfl fun h0 G0 O0 ga => ?_
 repeat' (first|refine Sp.h ?_|refine Lk.r rfl ?_|refine Rf.mk rfl ?_|refine xA ?_|refine All.mk fun _=>?_|refine xU ?_|refine xT ?_|refine Ch.l ⟨rfl, rfl⟩ ?_|(apply Fk.r;focus repeat' first|infer_instance|constructor)|refine Rf.mk ⟨rfl, rfl, rfl⟩ ?_|(apply Cl.pG (hv);(focus exact ga);focus (repeat' constructor);done))
 rename_i b4 v22
 refine CA.loop (fun i : Nat => ⟨[(1, .ad (stoV m b l w) 0), (2, ints a), (3, ints c), (4, pm b4), (22, .ow v22), (23, it 2), (24, it i)], [blkR b4 30 (modC m), arrR v22 22 1 [[ints a], [ints c]] id]⟩)
  (fun i => i ≤ 2 ∧ (1 ≤ i → ka = 0) ∧ (2 ≤ i → kc = 0)) (fun i => 2 - i) 0 xE ⟨Nat.zero_le _, fun h => by omega, fun h => by omega⟩ ?_
 rintro i ⟨hi, hi1, hi2⟩
 match i, hi with
 | 0, _ =>
  have hq : ([[ints a], [ints c]] : List (List AV))[0]? = some [ints a] := rfl
  by_cases h0 : ka = 0
  ·repeat' (first|refine Sp.h ?_|refine Lk.r rfl ?_|refine Rf.mk rfl ?_|refine xA ?_|refine xU ?_|refine xI ?_|refine xJ ?_|refine xO ?_|(apply Cl.p (hka);focus (repeat' constructor);done))
   all_goals try exact (by omega : False).elim
   exact PA.lp 1 xE ⟨⟨by omega, fun _ => h0, fun h => by omega⟩, by omega⟩
  ·repeat' (first|refine Sp.h ?_|refine Lk.r rfl ?_|refine Rf.mk rfl ?_|refine xA ?_|refine xB ?_|refine xU ?_|refine xI ?_|refine xJ ?_|refine xN ?_|(apply Cl.p (hka);focus (repeat' constructor);done))
   all_goals try exact absurd (by omega) h0
   rw [if_neg h0]
   exact ⟨_, _, .tup (.same (.same (.z))), .inl ⟨h0, rfl, rfl⟩⟩
 | 1, _ =>
  have hq : ([[ints a], [ints c]] : List (List AV))[1]? = some [ints c] := rfl
  have h0 := hi1 (Nat.le_refl _)
  rw [if_pos h0]
  by_cases h1 : kc = 0
  ·repeat' (first|refine Sp.h ?_|refine Lk.r rfl ?_|refine Rf.mk rfl ?_|refine xA ?_|refine xU ?_|refine xI ?_|refine xJ ?_|refine xO ?_|(apply Cl.p (hkc);focus (repeat' constructor);done))
   all_goals try exact (by omega : False).elim
   exact PA.lp 2 xE ⟨⟨by omega, fun _ => h0, fun _ => h1⟩, by omega⟩
  ·repeat' (first|refine Sp.h ?_|refine Lk.r rfl ?_|refine Rf.mk rfl ?_|refine xA ?_|refine xB ?_|refine xU ?_|refine xI ?_|refine xJ ?_|refine xN ?_|(apply Cl.p (hkc);focus (repeat' constructor);done))
   all_goals try exact absurd (by omega) h1
   exact ⟨_, _, .tup (.same (.same (.z))), .inl ⟨h1, rfl, rfl⟩⟩
 | 2, _ =>
  have h0 := hi1 (by omega)
  have h1 := hi2 (by omega)
  rw [if_pos h0, h1]
  (repeat' (first|(show CA _ _ (Code.region 10 _ _) _ _;apply Stopped.out)|refine Sp.h ?_|refine Lk.r rfl ?_|refine Rf.mk rfl ?_|refine xB ?_|fail));any_goals apply Stopped.mk
  refine CA.cut (fun x : Nat × Nat => ⟨[(13, pm x.1), (14, pm x.2)], [blkR x.1 121 (snpC S B V), blkR x.2 121 (snpC S' B' V')]⟩) (fun _ => True) ?_ ?_
  ·repeat' (first|refine Sp.h ?_|refine Lk.r rfl ?_|refine Rf.mk rfl ?_|refine OpK.r rfl ?_|refine All.mk fun _=>?_|refine xT ?_|refine Ch.l ⟨rfl, rfl⟩ ?_|(apply SetAsk.r;focus repeat' constructor)|refine xN ?_|refine xD ?_|exact trivial|apply RA'.both|(apply Cl.pG (hta);(focus exact ga);focus (repeat' constructor);done)|(apply Cl.pG (htc);(focus exact ga);focus (repeat' constructor);done))
   all_goals exact PA.lp (_, _) xE trivial
  rintro ⟨b13, b14⟩ -
  simp only
  (repeat' (first|(show CA _ _ (Code.region 11 _ _) _ _;apply Stopped.out)|refine Sp.h ?_|fail));any_goals apply Stopped.mk
  refine CA.freezeB 13 rfl (by repeat constructor) ?_
  refine CA.freezeB 14 rfl (by repeat constructor) ?_
  (repeat' (first|(show CA _ _ (Code.region 12 _ _) _ _;apply Stopped.out)|refine Sp.h ?_|refine Lk.r rfl ?_|refine Rf.mk rfl ?_|refine All.mk fun _=>?_|refine xN ?_|fail));any_goals apply Stopped.mk
  rename_i b15
  refine CA.nilCell (b := b15) (i := 0) (by repeat constructor) rfl 102 2 qryC fun v => ?_
  have hc1 := schanged1_a S B V S' B' V' 0 (strF m) b15 v [] (by simp) (by omega) fun j hj => (hvk j).1 hj
  rw [List.nil_append] at hc1
  have hcl := chgF_len (S := S) (B := B) (V := V) (S' := S') (B' := B') (V' := V') (k := 0) (n := strF m)
  have hc2 := fun u => schanged1_a S B V S' B' V' 2 (mrgF m).length b15 u (chgF S B V S' B' V' 0 (strF m)) (by omega) (by omega) fun j hj => (hvk j).2 hj
  rw [← hsl] at hc1 hc2 ⊢
  rw [← hvl] at hc2 ⊢
  repeat' (first|refine Sp.h ?_|refine Lk.r rfl ?_|refine Rf.mk rfl ?_|refine Im.mk fun _=>?_|fail)
  refine xW (hc1) ?_
  rintro _ _ ⟨rfl, v2, rfl⟩
  repeat' (first|refine Sp.h ?_|refine Lk.r rfl ?_|refine Rf.mk rfl ?_|refine Im.mk fun _=>?_|fail)
  have hc2 := hc2 v2
  refine xW (hc2) ?_
  rintro _ _ ⟨rfl, v3, rfl⟩
  repeat' (first|refine Sp.h ?_|refine Lk.r rfl ?_|refine Rf.mk rfl ?_|refine xT ?_|refine xN ?_|fail)
  exact ⟨_, _, .tup (.same (.same (.z))), .inr ⟨rfl, v3, rfl, rfl⟩⟩
end Go.Proofs.YtmjllbjfkafhdaaGreatDoor
namespace Go.Proofs.YtmjllbjfkafhdaaGreatDoor
open Go Go.CF
set_option maxRecDepth 20000
def cn5M : ModS := ⟨[], [tC], [⟨#[99]⟩], [⟨0, 0, ⟨[(0, -1)], 0⟩, 0, 0⟩, ⟨0, 0, ⟨[(0, 1)], 9⟩, 0, 0⟩], [⟨⟨#[117, 112]⟩, false, []⟩, ⟨⟨#[100, 111, 119, 110]⟩, false, []⟩], [⟨0, [], ⟨[(0, 2)], [], []⟩⟩, ⟨1, [], ⟨[(0, -1)], [], []⟩⟩], []⟩
theorem exm_a : CallA Tryz.prog 43 [] [] fun r own => ∃ vt vf t1 t2 vc vo d1 d2 va p1 p2 ve, r = .tup [.agg [nl0, .ow vt, .ow vf, .ow vc, .ow vo, .ow va, nl0], .ow ve] ∧ own = [
  arrR ve 66 13 [[it 0, it 1, it 1, .ow p1, it 0, it 0, it 0, it 0, it 0, it 0, it 0, it 0, it 1], [it 1, it 1, it 1, .ow p2, it 0, it 1, it 0, it 0, it 0, it 0, it 0, it 0, it 1]] id,
  arrR p2 3 1 [[it 0], [it 0]] id,
  arrR p1 3 1 [[it 0], [it 0]] id,
  arrR va 142 5 [[it 0, nl0, .ow d1, nl0, nl0], [it 1, nl0, .ow d2, nl0, nl0]] id,
  arrR d2 144 2 [[it 0, it (-1)]] id,
  arrR d1 144 2 [[it 0, it 2]] id,
  arrR vo 174 3 [[sv ⟨#[117, 112]⟩, bl false, nl0], [sv ⟨#[100, 111, 119, 110]⟩, bl false, nl0]] id,
  arrR vc 172 6 [[it 0, it 0, .ow t1, it 0, it 0, it 0], [it 0, it 0, .ow t2, it 9, it 0, it 0]] id,
  arrR t2 167 2 [[it 0, it 1]] id,
  arrR t1 167 2 [[it 0, it (-1)]] id,
  arrR vf 9 1 [[sv ⟨#[99]⟩]] id,
  arrR vt 150 6 [[sv ⟨#[99]⟩, it 1, nl0, it 0, it 9, it 0]] id] := by
 refine CallA.of pg ord43 Tryz.func43 rfl Tryz.ntmps43 Tryz.results43 rfl fun h0 G0 O0 => ?_
 repeat' (first|refine Sp.h ?_|refine Lk.r rfl ?_|refine Rf.mk rfl ?_|refine All.mk fun _=>?_|refine xT ?_|refine Ch.l ⟨rfl, rfl⟩ ?_|(apply SetAsk.r;focus repeat' constructor)|(apply Fk.r;focus repeat' first|infer_instance|constructor)|refine xN ?_|refine Rf.mk ⟨rfl, rfl, rfl⟩ ?_|fail)
 exact ⟨_, _, .tup (.same (.same (.z))), _, _, _, _, _, _, _, _, _, _, _, _, rfl, rfl⟩
theorem exm_p : CallP Tryz.prog 43 [] (.tup [mdl cn5M, evs [ca, cb]]) := by
 refine CallA.fx exm_a ?_
 rintro _ _ ⟨vt, vf, t1, t2, vc, vo, d1, d2, va, p1, p2, ve, rfl, rfl⟩
 refine FX.tup ?_ .nil
 repeat' (first
  | exact FX.nil
  | (apply FX.sl;(focus repeat constructor);(focus exact Nat.le_of_ble_eq_true rfl))
  | apply FX.agg
  | (apply FX.le;(focus first|exact ALe.nil|exact ALe.refl _)))
theorem cn5_mrg : mrgF cn5M = [] := by simp [mrgF, mrgL, cn5M, isStrict, tC]
theorem cn5_str : strF cn5M = 1 := by simp [strF, strN, cn5M, isStrict, szF, prodF, tC]
theorem cn5_lay : LayOK cn5M.sorts cn5M.tables := cnt_lay
theorem cn5_ok : MOK cn5M := by
 have h := cnt_ok
 exact ⟨h.lay, by simp [cn5M], h.acts, fun a ha => (let q := h.eff a ha; ⟨q.dl, q.hl, q.ul, q.d, q.u⟩), h.str, h.mrg⟩
theorem cab5_1 : deliverF cn5M [] (stN cn5M 2 [3] []) ca = (0, stN cn5M 2 [3] [ca]) := cab_1
theorem cab5_2 : deliverF cn5M [ca] (stN cn5M 2 [3] [ca]) cb = (0, stN cn5M 2 [3] [ca, cb]) := cab_2
theorem cab5_3 : ∃ B N, compactF cn5M ⟨stN cn5M 2 [3] [], [ca, cb], stN cn5M 2 [3] [ca, cb]⟩ [1, 0] = (0, ⟨B, [cb], N⟩) ∧ B.state = [5] ∧ SzN B ∧ N.clock = [1, 1] := cab_3
end Go.Proofs.YtmjllbjfkafhdaaGreatDoor
namespace Go.Proofs.YtmjllbjfkafhdaaGreatDoor
open Go Go.CF
set_option maxRecDepth 20000
theorem nm_c : NmOK ⟨#[99]⟩ := by
 refine ⟨⟨by decide, by unfold isLetter byteAt;decide, fun i h1 h2 => ?_, ?_⟩, by decide⟩
 ·have : i < 1 := h2
  match i, this with
  | 0, _ => exact .inl (by unfold isLetter byteAt;decide)
 ·rintro ⟨q, hq, he⟩
  rw [ByteArray.toList_eq, ByteArray.toList_eq] at he
  revert he
  revert q
  decide
theorem nm_up : NmOK ⟨#[117, 112]⟩ := by
 refine ⟨⟨by decide, by unfold isLetter byteAt;decide, fun i h1 h2 => ?_, ?_⟩, by decide⟩
 ·have : i < 2 := h2
  match i, this with
  | 0, _ => exact .inl (by unfold isLetter byteAt;decide)
  | 1, _ => exact .inl (by unfold isLetter byteAt;decide)
 ·rintro ⟨q, hq, he⟩
  rw [ByteArray.toList_eq, ByteArray.toList_eq] at he
  revert he
  revert q
  decide
theorem nm_dn : NmOK ⟨#[100, 111, 119, 110]⟩ := by
 refine ⟨⟨by decide, by unfold isLetter byteAt;decide, fun i h1 h2 => ?_, ?_⟩, by decide⟩
 ·have : i < 4 := h2
  match i, this with
  | 0, _ => exact .inl (by unfold isLetter byteAt;decide)
  | 1, _ => exact .inl (by unfold isLetter byteAt;decide)
  | 2, _ => exact .inl (by unfold isLetter byteAt;decide)
  | 3, _ => exact .inl (by unfold isLetter byteAt;decide)
 ·rintro ⟨q, hq, he⟩
  rw [ByteArray.toList_eq, ByteArray.toList_eq] at he
  revert he
  revert q
  decide
theorem cn5_col : ColOK [] [] := by
 refine ⟨by simp, ?_, ?_⟩ <;> (intro x hx;cases hx)
theorem cn5_num : numF [] [] = 1 := by rw [numF, if_pos cn5_col];rfl
theorem cn5_layX : LayX cn5M.sorts cn5M.tables := by
 refine ⟨by decide, cn5_lay.2.1, by decide, fun i t hi => ?_, ?_, ?_⟩
 ·match i, hi with
  | 0, hi =>
   cases hi
   refine ⟨nm_c, fun j u h => by omega, cn5_lay.2.2.2 _ (by simp [cn5M]), fun h => ?_, ?_⟩
   ·simp [tC] at h
   ·simp [sumK, tC]
  | n + 1, hi => cases hi
 ·simp [sumK, cn5M, tC, cn5_num, isStrict]
 ·simp [sumK, cn5M, tC, isStrict]
theorem cn5_rg : strR cn5M = [(0, 9)] := by
 rw [strR, rngF, if_pos cn5_layX]
 simp [rngL, cn5M, tC, cn5_num, isStrict]
theorem cn5_con : ConX cn5M := by
 refine ⟨by rw [cn5_rg];decide, by decide, fun i c hi => ?_⟩
 rw [cn5_rg]
 match i, hi with
 | 0, hi =>
  cases hi
  refine ⟨fun p hp => by cases hp;simp, ⟨by simp [cn5M], .inl ⟨rfl, rfl, rfl, ?_, by simp⟩⟩⟩
  intro i p hp
  match i, hp with
  | 0, hp => cases hp;exact ⟨by decide, by decide, by decide, by decide, fun q h => by omega⟩
  | n + 1, hp => cases hp
 | 1, hi =>
  cases hi
  refine ⟨fun p hp => by cases hp;simp, ⟨by simp [cn5M], .inl ⟨rfl, rfl, rfl, ?_, by simp⟩⟩⟩
  intro i p hp
  match i, hp with
  | 0, hp => cases hp;exact ⟨by decide, by decide, by decide, by decide, fun q h => by omega⟩
  | n + 1, hp => cases hp
 | n + 2, hi => cases hi
theorem cn5_ops : OpsX cn5M := by
 refine ⟨fun i o hi => ?_, by decide, fun i s hi => ?_⟩
 ·match i, hi with
  | 0, hi => cases hi;exact ⟨(by intro k s h;cases h), by simp⟩
  | 1, hi => cases hi;exact ⟨(by intro k s h;cases h), by simp⟩
  | n + 2, hi => cases hi
 ·match i, hi with
  | 0, hi => cases hi;exact ⟨nm_up, fun j q h => by omega⟩
  | 1, hi =>
   cases hi
   refine ⟨nm_dn, fun j q h hq => ?_⟩
   match j, h with
   | 0, _ => cases hq;rw [ByteArray.toList_eq, ByteArray.toList_eq];decide
  | n + 2, hi => cases hi
theorem cn5_acts : ActX cn5M := by
 refine ⟨cn5_ops, by decide, fun i a hi => ?_⟩
 match i, hi with
 | 0, hi =>
  cases hi
  refine ⟨⟨0, rfl, _, rfl, rfl, fun k x s h => by cases h⟩, fun b h => by omega, ?_⟩
  refine ⟨fun i p hp => ?_, (by intro i r h;cases h), (by intro i p h;cases h), by decide, by decide⟩
  rw [cn5_rg]
  match i, hp with
  | 0, hp => cases hp;exact ⟨by decide, by decide, by decide, by decide, fun q h => by omega⟩
  | n + 1, hp => cases hp
 | 1, hi =>
  cases hi
  refine ⟨⟨1, rfl, _, rfl, rfl, fun k x s h => by cases h⟩, fun b h hb => by cases hb;exact .inl (by decide), ?_⟩
  refine ⟨fun i p hp => ?_, (by intro i r h;cases h), (by intro i p h;cases h), by decide, by decide⟩
  rw [cn5_rg]
  match i, hp with
  | 0, hp => cases hp;exact ⟨by decide, by decide, by decide, by decide, fun q h => by omega⟩
  | n + 1, hp => cases hp
 | n + 2, hi => cases hi
theorem cn5_val : ValX cn5M := by
 refine ⟨cn5_layX, by decide, fun i s hi => ?_, cn5_con, cn5_acts, ⟨by decide, (by intro i h hi;cases hi), (by intro i h hi;cases hi)⟩⟩
 match i, hi with
 | 0, hi => cases hi;exact ⟨nm_c, fun j q h => by omega⟩
 | n + 1, hi => cases hi
theorem cn5_upd : UpdsRg cn5M := by
 intro a ha
 simp only [cn5M, List.mem_cons, List.not_mem_nil, or_false] at ha
 rcases ha with rfl|rfl <;> (intro u hu;cases hu)
theorem cn5_rs : rgsF cn5M true = [(0, 9)] := by rw [rgsF, if_pos cn5_val];exact cn5_rg
theorem cn5_rm : rgsF cn5M false = [] := by
 rw [rgsF, if_pos cn5_val, rngF, if_pos cn5_layX]
 simp [rngL, cn5M, tC, isStrict]
theorem cn5_qry (k c : Int) : QryK (rgsF cn5M true).length (rgsF cn5M false).length (k, c) ↔ c = 0 ∧ (k = 0 ∨ k = 1) := by
 rw [cn5_rs, cn5_rm]
 unfold QryK cntKd
 simp only [List.length_cons, List.length_nil]
 by_cases h : k = 0 ∨ k = 1
 ·rw [if_pos h]
  omega
 ·rw [if_neg h]
  split <;> omega
theorem cn5_q0 : QrysX cn5M [(0, 0)] := ⟨cn5_val, fun q hq => by
 simp only [List.mem_cons, List.not_mem_nil, or_false] at hq
 subst hq
 exact (cn5_qry 0 0).2 ⟨rfl, .inl rfl⟩⟩
end Go.Proofs.YtmjllbjfkafhdaaGreatDoor
