/- Part 15 of the ground of this proof: what its texts say of the model, the program and the plain data; conditions: those that are named. -/
import Derived.Test.YtmjllbjfkafhdaaGreatDoorP14
namespace Go.Proofs.YtmjllbjfkafhdaaGreatDoor
open Go Go.CF
set_option maxRecDepth 20000
theorem equalQ_p (a b : List QryS) : CallP Tryz.prog 47 [qrys a, qrys b] (.val (.bool (decide (a = b)))) := by
  refine CallA.of pg ord47 Tryz.func47 rfl Tryz.ntmps47 Tryz.results47 rfl fun h0 G0 O0 => ?_
  repeat' (first|refine Sp.h ?_|refine Lk.r rfl ?_|refine Rf.mk rfl ?_|(refine Bd.mk ?_ ?_ <;> intro _)|refine Im.mk fun _=>?_|refine xN ?_|fail)
  · rename_i ha hb hab _
    refine CA.loop (fun i : Nat => ⟨[(0, qrys a), (1, qrys b), (12, .val (.int .i64 a.length)), (13, .val (.int .i64 i))], []⟩) (fun i => i ≤ a.length ∧ a.take i = b.take i) (fun i => a.length - i) 0 xE ⟨Nat.zero_le _, by simp⟩ ?_
    rintro i ⟨hi, heq⟩
    by_cases hin : i < a.length
    · obtain ⟨⟨x1, x2⟩, hx⟩ : ∃ x, a[i]? = some x := ⟨_, List.getElem?_eq_getElem hin⟩
      obtain ⟨⟨y1, y2⟩, hy⟩ : ∃ y, b[i]? = some y := ⟨_, List.getElem?_eq_getElem (by omega)⟩
      repeat' (first|refine Sp.h ?_|refine Lk.r rfl ?_|refine Rf.mk rfl ?_|refine xA ?_|(refine Bd.mk ?_ ?_ <;> intro _)|refine OpK.r rfl ?_|refine xI ?_|refine Ch.l ⟨rfl, rfl⟩ ?_|refine xN ?_|refine xK ?_|(apply Kf.mk;(focus kernel_rfl))|refine xD ?_|refine xO ?_|fail)
      all_goals first
        | (refine PA.lp (i + 1) xE ⟨⟨hin, ?_⟩, by omega⟩
           rw [List.take_add_one, List.take_add_one, hx, hy, heq, show (x1, x2) = (y1, y2) by simp_all]
           done)
        | (refine Fin.p rfl ?_
           rw [decide_eq_false (fun e => by subst e;rw [hx] at hy;cases hy;simp_all)]
           done)
    · have : i = a.length := by omega
      subst this
      repeat' (first|refine Sp.h ?_|refine Lk.r rfl ?_|refine Rf.mk rfl ?_|refine xB ?_|refine xN ?_|fail)
      refine Fin.p rfl ?_
      rw [List.take_length] at heq
      rw [decide_eq_true (by rw [heq, List.take_of_length_le (by omega)])]
  · rename_i h
    refine Fin.p rfl ?_
    rw [decide_eq_false (fun e => h (by rw [e]))]
theorem snp5_ok (b : NowS) (l : List EvS) (c : List Int) : SnpOK cn5M b l c := by
 have h : snpV cn5M b l c = [] := by
  rw [snpV]
  by_cases hv : ValL (mrgF cn5M) (snpK cn5M b l c)
  ·rw [valuesQ_ok hv, cn5_mrg]
   rfl
  ·rw [valuesQ_bad hv]
 refine ⟨by rw [h, cn5_mrg];rfl, fun x hx => ?_⟩
 rw [h] at hx
 cases hx
theorem ev5_ca : EvV cn5M 2 ca := ⟨ca_f, rfl, fun _ => by decide⟩
theorem ev5_cb : EvV cn5M 2 cb := ⟨cb_f, rfl, fun _ => by decide⟩
theorem con_2 {a b c d : Int} (ha : 0 ≤ a ∧ a ≤ 1024) (hb : 0 ≤ b ∧ b ≤ 1024) (hc : 0 ≤ c ∧ c ≤ 1024) (hd : 0 ≤ d ∧ d ≤ 1024) : ConC [a, b] [c, d] ↔ c ≤ a ∧ d ≤ b := by
 rw [conC_iff]
 refine ⟨fun h => ⟨h.2 0 c a rfl rfl, h.2 1 d b rfl rfl⟩, fun h => ⟨⟨val2 a b ha hb, val2 c d hc hd, rfl⟩, ins_2 h.1 h.2⟩⟩
theorem chk5 {l : List EvS} (hl : ∀ e ∈ l, e = ca ∨ e = cb) {a b c d : Int} (ha : 0 ≤ a ∧ a ≤ 1024) (hb : 0 ≤ b ∧ b ≤ 1024) (hc : 0 ≤ c ∧ c ≤ 1024) (hd : 0 ≤ d ∧ d ≤ 1024) :
  chkF [a, b] l [1, 1] [c, d] = if a ≤ c ∧ b ≤ d then if c ≤ 1 ∧ d ≤ 1 then 0 else 11 else 7 := by
 have hlo : ¬ ∃ e ∈ l, LooseC [c, d] e := by
  rintro ⟨e, he, -, h2⟩
  apply h2
  rcases hl e he with rfl|rfl
  ·exact (con_2 hc hd (by decide) (by decide)).2 ⟨hc.1, hd.1⟩
  ·exact (con_2 hc hd (by decide) (by decide)).2 ⟨hc.1, hd.1⟩
 unfold chkF
 rw [if_neg (fun h => h ⟨val2 c d hc hd, rfl⟩)]
 by_cases h1 : a ≤ c ∧ b ≤ d
 ·rw [if_pos h1, if_neg (fun h => h ((con_2 hc hd ha hb).2 h1))]
  by_cases h2 : c ≤ 1 ∧ d ≤ 1
  ·rw [if_pos h2, if_neg (fun h => h ((con_2 (by decide) (by decide) hc hd).2 h2)), if_neg hlo]
  ·rw [if_neg h2, if_pos (fun h => h2 ((con_2 (by decide) (by decide) hc hd).1 h))]
 ·rw [if_neg h1, if_pos (fun h => h1 ((con_2 hc hd ha hb).1 h))]
theorem in_2 (l : List EvS) (c d : Int) (hc : 0 ≤ c ∧ c ≤ 1024) (hd : 0 ≤ d ∧ d ≤ 1024) (hl : ∀ e ∈ l, e = ca ∨ e = cb) : inL [c, d] l = l.filter fun e => (decide (e = ca) && decide (1 ≤ c)) || (decide (e = cb) && decide (1 ≤ d)) := by
 obtain ⟨h1, h2⟩ := has_2 c d hc hd
 unfold inL
 refine List.filter_congr fun e he => ?_
 have hne : ca ≠ cb := fun h => absurd (congrArg EvS.rep h) (by decide)
 rcases hl e he with rfl|rfl
 ·rw [show decide (HasC [c, d] ca.rep ca.num) = decide (1 ≤ c) from decide_eq_decide.2 h1]
  simp [hne]
 ·rw [show decide (HasC [c, d] cb.rep cb.num) = decide (1 ≤ d) from decide_eq_decide.2 h2]
  simp [hne.symm]
theorem shows5 (b : NowS) (hb : b.state = [3]) : snpS cn5M b [ca, cb] [1, 0] = [5] ∧ snpS cn5M b [ca, cb] [0, 1] = [2] ∧ snpS cn5M b [ca, cb] [1, 1] = [4] ∧ snpS cn5M b [ca, cb] [0, 0] = [3] := by
 have hne : ca ≠ cb := fun h => absurd (congrArg EvS.rep h) (by decide)
 have hl : ∀ e ∈ [ca, cb], e = ca ∨ e = cb := fun e he => by simpa using he
 refine ⟨?_, ?_, ?_, ?_⟩
 all_goals
  rw [snpS, in_2 _ _ _ (by decide) (by decide) hl, hb]
  simp [hne, hne.symm]
  try rfl
theorem shows5' (b : NowS) (hb : b.state = [5]) : snpS cn5M b [cb] [1, 0] = [5] ∧ snpS cn5M b [cb] [1, 1] = [4] := by
 have hne : ca ≠ cb := fun h => absurd (congrArg EvS.rep h) (by decide)
 have hl : ∀ e ∈ [cb], e = ca ∨ e = cb := fun e he => by right;simpa using he
 refine ⟨?_, ?_⟩
 all_goals
  rw [snpS, in_2 _ _ _ (by decide) (by decide) hl, hb]
  simp [hne, hne.symm]
  try rfl
theorem rows5 {b : NowS} {l : List EvS} {c : List Int} {x : Int} (h : snpS cn5M b l c = [x]) : rowsF cn5M b l c [(0, 0)] = [[x]] := by
 unfold rowsF
 rw [h]
 rfl
theorem chg5 {b : NowS} {l : List EvS} {a c : List Int} (ha : snpS cn5M b l a = [5]) (hc : snpS cn5M b l c = [4]) : chgR cn5M b l a c = [(0, 0)] := by
 unfold chgR
 rw [ha, hc, cn5_str, cn5_mrg, chgF_succ, if_neg (show ¬ valQ [5] _ _ (0, ((0 : Nat) : Int)) = valQ [4] _ _ (0, ((0 : Nat) : Int)) from by
  intro h
  have h : ([5] : List Int) = [4] := h
  simp at h)]
 rfl
theorem com5 (s : StoQ) (h1 : s.w.clock = [1, 1]) (h2 : s.b.clock = [1, 0]) : comF [some s, some s] = 0 ∧ foldC min (sclkF [some s, some s]) = [1, 1] := by
 have hv := val2 1 1 (by decide) (by decide)
 have h3 : sclkF [some s, some s] = [[1, 1], [1, 1]] := by simp [sclkF, h1]
 have hf : foldC min (sclkF [some s, some s]) = [1, 1] := by rw [h3];rfl
 refine ⟨?_, hf⟩
 rw [comF, if_neg, if_neg]
 ·rintro ⟨s', hs, h⟩
  simp only [List.mem_cons, List.not_mem_nil, or_false, or_self, Option.some.injEq] at hs
  subst hs
  apply h
  rw [h2, hf]
  exact (con_2 (a := 1) (b := 1) (by decide) (by decide) (by decide) (by decide)).2 (by decide)
 ·rintro (h|h)
  ·simp at h
  ·apply h
   rw [h3]
   refine ⟨by simp, fun c hc => ?_⟩
   simp only [List.mem_cons, List.not_mem_nil, or_false, or_self] at hc
   subst hc
   exact ⟨hv, rfl⟩
theorem cab5_4 : ∃ B N, compactF cn5M ⟨stN cn5M 2 [3] [], [ca, cb], stN cn5M 2 [3] [ca, cb]⟩ [1, 0] = (0, ⟨B, [cb], N⟩) ∧ B.state = [5] ∧ SzN B ∧ N.clock = [1, 1] ∧ B.clock = [1, 0] := by
 obtain ⟨B, N, h1, h2, h3, h4⟩ := cab5_3
 refine ⟨B, N, h1, h2, h3, h4, ?_⟩
 unfold compactF at h1
 split at h1
 ·simp at h1
 split at h1
 ·simp at h1
 ·have : B = cmpB cn5M (stN cn5M 2 [3] []) [1, 0] [ca, cb] := by
   have := congrArg (fun q : Int × StoS => q.2.base) h1
   exact this.symm
  rw [this]
  rfl
end Go.Proofs.YtmjllbjfkafhdaaGreatDoor
namespace Go.CF
open Go
theorem Cl.resx {Γ : Cx} {c : Cls} {o : List Res} {f : FuncId} {ax : List AV} {M' M : AV → List Res → Prop} (h : Cl Γ c f ax o M') (hM : ∀ r o', M' r o' → ∃ a o2, FX o' [r] [a] o2 ∧ M a o2) : Cl Γ c f ax o M := by
 refine ⟨fun {hh G Os vs} hp hr => (h.ok hp hr).mono fun v h' ⟨g1, r, o', G', Os', g2, g3, g4, g5, g6⟩ => ?_⟩
 obtain ⟨a, o2, x, hm⟩ := hM r o' g2
 obtain ⟨G2, Os2, k1, k2, k3⟩ := x.rep g4 (vs := [v]) ⟨g3, trivial⟩
 exact ⟨g1, a, o2, G2, Os2, hm, k2.1, k1, g5, fun b hb => k3 b (g6 b hb)⟩
theorem CallG.fx {P : Program} {f : FuncId} {ax : List AV} {own : List Res} {K : AV → List Res → Prop} {a : AV} (h : CallG P f ax own K) (hK : ∀ r o, K r o → FX o [r] [a] []) : CallG P f ax own fun q o => q = a ∧ o = [] :=
 ⟨fun hh G Os vs h1 h2 ha => (h.run hh G Os vs h1 h2 ha).mono fun v' h' ⟨r, o, G', Os', hk, g1, g2⟩ => by
  obtain ⟨G2, Os2, k1, k2, k3⟩ := (hK r o hk).rep g2 (vs := [v']) ⟨g1, trivial⟩
  exact ⟨a, [], G2, Os2, ⟨rfl, rfl⟩, k2.1, k1⟩⟩
end Go.CF
namespace Go.Proofs.YtmjllbjfkafhdaaGreatDoor
open Go Go.CF
set_option maxRecDepth 20000
theorem rd_fx {rows : List (List Int)} (hl : rows.length ≤ 1000000) (hm : ∀ x ∈ rows, x.length ≤ 1000000) {r : AV} {own o : List Res} (h : RdK 0 rows r own) : FX (own ++ o) [r] [.tup [clks rows, it 0]] o := by
 rcases h with ⟨h, _⟩|⟨_, v, L, rfl, rfl, rfl⟩
 ·exact absurd rfl h
 refine .tup (cls_fx (by simpa using hl) (fun x hx => hm _ (List.mem_map_of_mem hx)) (.le (ALe.refl _) .nil)) .nil
theorem Cl.readG {Γ : Cx} {c : Cls} {o : List Res} {f : FuncId} {ax ax' : List AV} {rows : List (List Int)} {M : AV → List Res → Prop} (hc : CallG Γ.P f ax' [] (RdK 0 rows)) (ga : AmbF Γ.P Γ.h0 Γ.G0 Γ.O0) (hs : rows.length ≤ 1000000 ∧ ∀ x ∈ rows, x.length ≤ 1000000) (hl : Lend o ax ax') (hm : M (.tup [clks rows, it 0]) o) : Cl Γ c f ax o M :=
 Cl.resx (M' := fun r o' => ∃ own, RdK 0 rows r own ∧ o' = own ++ o) (Cl.lendOG hc ga hl flat_rd fun r own h => ⟨own, h, rfl⟩) fun r o' ⟨own, h, e⟩ => by
  subst e
  exact ⟨_, _, rd_fx hs.1 hs.2 h, hm⟩
def cs53 : List (List Int × Int) := [([1, 0], 5), ([0, 1], 2), ([1, 1], 4), ([0, 0], 3)]
def csC (q : List Int × Int) : List AV := [ints q.1, it q.2]
theorem shw5 {b : NowS} {l : List EvS} {w : NowS} (hb : SzN b) (hw : w.clock = [1, 1]) (hl : ∀ e ∈ l, e = ca ∨ e = cb) (hn : l.length ≤ 2) : ShwS b l w := by
 refine ⟨hb, by rw [hw];decide, by omega, fun e he => ?_⟩
 rcases hl e he with rfl|rfl <;> decide
theorem ev5 {l : List EvS} {w : NowS} (hw : w.clock = [1, 1]) (hl : ∀ e ∈ l, e = ca ∨ e = cb) : ∀ e ∈ l, EvV cn5M (w.clock.length : Nat) e := by
 intro e he
 rw [hw]
 rcases hl e he with rfl|rfl
 ·exact ev5_ca
 ·exact ev5_cb
theorem read5 {b : NowS} {l : List EvS} {w : NowS} {c : List Int} {x : Int} (hb : SzN b) (hbs : b.state.length = 1) (hw : w.clock = [1, 1]) (hl : ∀ e ∈ l, e = ca ∨ e = cb) (hn : l.length ≤ 2) (hc : chkF b.clock l [1, 1] c = 0) (hx : snpS cn5M b l c = [x]) :
  CallG Tryz.prog 16 [mdl cn5M, .ad (stoV cn5M b l w) 0, ints c, qrys [(0, 0)]] [] (RdK 0 [[x]]) := by
 have h := sread_g cn5M b l w c [(0, 0)] (shw5 hb hw hl hn) cn5_ok cn5_upd (by rw [cn5_str];exact hbs) (ev5 hw hl) (fun _ => snp5_ok b l c) (by decide)
 rw [rdF, if_pos cn5_q0, hw, hc, rows5 hx] at h
 exact h
theorem sz5 : SzN (stN cn5M 2 [3] []) := by
 refine ⟨by simp [stN, clkE], by simp [stN], ?_, ?_, by simp [stN]⟩
 ·simp only [stN, List.foldl_nil, cn5_mrg];simp
 ·simp only [stN, List.foldl_nil, cn5_mrg];simp
theorem l5 : ∀ e ∈ [ca, cb], e = ca ∨ e = cb := fun e he => by simpa using he
theorem read5a (i : Nat) (q : List Int × Int) (hq : cs53[i]? = some q) : CallG Tryz.prog 16 [mdl cn5M, .ad (stoV cn5M (stN cn5M 2 [3] []) [ca, cb] (stN cn5M 2 [3] [ca, cb])) 0, ints q.1, qrys [(0, 0)]] [] (RdK 0 [[q.2]]) := by
 obtain ⟨s1, s2, s3, s4⟩ := shows5 (stN cn5M 2 [3] []) rfl
 have hk : ∀ c d : Int, 0 ≤ c ∧ c ≤ 1 → 0 ≤ d ∧ d ≤ 1 → chkF (stN cn5M 2 [3] []).clock [ca, cb] [1, 1] [c, d] = 0 := fun c d hc hd => by
  rw [show (stN cn5M 2 [3] []).clock = [0, 0] from rfl, chk5 l5 (by decide) (by decide) (by omega) (by omega), if_pos (by omega), if_pos (by omega)]
 match i, hq with
 | 0, hq => cases hq;exact read5 sz5 rfl rfl l5 (by decide) (hk _ _ (by decide) (by decide)) s1
 | 1, hq => cases hq;exact read5 sz5 rfl rfl l5 (by decide) (hk _ _ (by decide) (by decide)) s2
 | 2, hq => cases hq;exact read5 sz5 rfl rfl l5 (by decide) (hk _ _ (by decide) (by decide)) s3
 | 3, hq => cases hq;exact read5 sz5 rfl rfl l5 (by decide) (hk _ _ (by decide) (by decide)) s4
 | n + 4, hq => cases hq
theorem now5 {b : NowS} {l : List EvS} {w : NowS} {x : Int} (hb : SzN b) (hbs : b.state.length = 1) (hw : w.clock = [1, 1]) (hl : ∀ e ∈ l, e = ca ∨ e = cb) (hn : l.length ≤ 2) (hc : chkF b.clock l [1, 1] [1, 1] = 0) (hx : snpS cn5M b l [1, 1] = [x]) :
  CallGP Tryz.prog 18 [mdl cn5M, .ad (stoV cn5M b l w) 0, qrys [(0, 0)]] (.tup [clks [[x]], ints [1, 1], it 0]) := by
 have h := snow_g cn5M b l w [(0, 0)] (shw5 hb hw hl hn) cn5_ok cn5_upd (by rw [cn5_str];exact hbs) (ev5 hw hl) (fun _ => snp5_ok b l _) (by decide)
 rw [rdF, if_pos cn5_q0, hw, hc, rows5 hx] at h
 refine CallG.fx h ?_
 rintro r o (⟨h, _⟩|⟨_, v, L, u, rfl, rfl, hL⟩)
 ·exact absurd rfl h
 rw [← hL]
 have hl : L.length = 1 := by rw [← List.length_map (f := ClE.c), hL];rfl
 refine .tup (cls_fx (by omega) (fun y hy => ?_) (.s1 .here (by simp) (.le (ALe.refl _) .nil))) .nil
 have := List.mem_map_of_mem (f := ClE.c) hy
 rw [hL] at this
 simp at this
 rw [this];simp
theorem com5_p (s : StoQ) (hb : SzN s.b) (hw : s.w.clock = [1, 1]) (hbc : s.b.clock = [1, 0]) (hl : ∀ e ∈ s.l, e = ca ∨ e = cb) (hn : s.l.length ≤ 2) :
  CallP Tryz.prog 39 [.sl 1 [some s, some s] sqC] (.tup [ints [1, 1], it 0]) := by
 have h := scommon_a [some s, some s] (by simp) (fun s' hs => by
  simp only [List.mem_cons, List.not_mem_nil, or_false, or_self, Option.some.injEq] at hs
  subst hs
  exact shw5 hb hw hl hn)
 rw [(com5 s hw hbc).1, (com5 s hw hbc).2] at h
 refine CallA.fx h ?_
 rintro r o (⟨h, _⟩|⟨_, u, rfl, rfl⟩)
 ·exact absurd rfl h
 exact .tup (.s1 .here (by simp) (.le (ALe.refl _) .nil)) .nil
theorem chg5_g {b : NowS} {l : List EvS} {w : NowS} {a c : List Int} (hb : SzN b) (hbs : b.state.length = 1) (hw : w.clock = [1, 1]) (hl : ∀ e ∈ l, e = ca ∨ e = cb) (hn : l.length ≤ 2) (hca : chkF b.clock l [1, 1] a = 0) (hcc : chkF b.clock l [1, 1] c = 0) (ha : snpS cn5M b l a = [5]) (hc : snpS cn5M b l c = [4]) :
  CallGP Tryz.prog 45 [mdl cn5M, .ad (stoV cn5M b l w) 0, ints a, ints c] (.tup [qrys [(0, 0)], it 0]) := by
 have h := schanged_g cn5M b l w a c (shw5 hb hw hl hn) cn5_ok cn5_upd (by rw [cn5_str];exact hbs) (ev5 hw hl) (fun _ => snp5_ok b l _) (fun _ => snp5_ok b l _)
 rw [chgC, if_pos cn5_val, hw, if_pos hca, hcc, chg5 ha hc] at h
 refine CallG.fx h ?_
 rintro r o (⟨h, _⟩|⟨_, u, rfl, rfl⟩)
 ·exact absurd rfl h
 exact .tup (.s1 .here (by simp) (.le (ALe.refl _) .nil)) .nil
theorem stN_ok5 (X : List EvS) (hX : ∀ e ∈ X, e ∈ [ca, cb]) (hl : X.length ≤ 1000) : NowOK cn5M (stN cn5M 2 [3] X) := by
 have h := stN_okC X hX hl
 exact ⟨h.clk, h.st, h.pls, h.pll⟩
end Go.Proofs.YtmjllbjfkafhdaaGreatDoor
namespace Go.Proofs.YtmjllbjfkafhdaaGreatDoor
open Go Go.CF
set_option maxRecDepth 20000
set_option maxHeartbeats 8000000 in
theorem awake53_g : CallGP Tryz.prog 9 [] (bl true) := by
 have hc := exm_p
 have h1 : CallA Tryz.prog 35 [mdl cn5M, it 2, ints [3]] [] fun q own => ∃ p v, q = .tup [pm p, it 0] ∧ own = [stoR p cn5M (stN cn5M 2 [3] []) v (stN cn5M 2 [3] []), arrR v 66 13 [] evC] := new35_a cn5M 2 [3] cn5_ok (by decide) (by rw [cn5_str];rfl) (insS_ld (by simp))
 have h3 : ∀ p v, CallA Tryz.prog 37 [pm p, evA' ca] [stoR p cn5M (stN cn5M 2 [3] []) v (stN cn5M 2 [3] []), arrR v 66 13 ([] : List EvS) evC] fun r own => r = it 0 ∧ ∃ v', own = [stoR p cn5M (stN cn5M 2 [3] []) v' (stN cn5M 2 [3] [ca]), arrR v' 66 13 [ca] evC] := fun p v => by
  have := deliver_a p cn5M (stN cn5M 2 [3] []) v [] (stN cn5M 2 [3] []) ca cn5_ok (stN_ok5 [] (by simp) (by simp)) (by simp)
  rw [evsD, cab5_1, if_pos rfl] at this
  exact this
 have h4 : ∀ p v, CallA Tryz.prog 37 [pm p, evA' cb] [stoR p cn5M (stN cn5M 2 [3] []) v (stN cn5M 2 [3] [ca]), arrR v 66 13 [ca] evC] fun r own => r = it 0 ∧ ∃ v', own = [stoR p cn5M (stN cn5M 2 [3] []) v' (stN cn5M 2 [3] [ca, cb]), arrR v' 66 13 [ca, cb] evC] := fun p v => by
  have := deliver_a p cn5M (stN cn5M 2 [3] []) v [ca] (stN cn5M 2 [3] [ca]) cb cn5_ok (stN_ok5 [ca] (by simp) (by simp)) (by simp)
  rw [evsD, cab5_2, if_pos rfl] at this
  exact this
 obtain ⟨B, N, c1, c2, c3, c4, c5⟩ := cab5_4
 have h5 : ∀ p v, CallA Tryz.prog 44 [pm p, ints [1, 0]] [stoR p cn5M (stN cn5M 2 [3] []) v (stN cn5M 2 [3] [ca, cb]), arrR v 66 13 [ca, cb] evC] fun r own => r = it 0 ∧ ∃ v', own = [stoR p cn5M B v' N, arrR v' 66 13 [cb] evC] := fun p v => by
  have hN := stN_ok5 [ca, cb] (by simp) (by simp)
  have h0 := stN_ok5 [] (by simp) (by simp)
  have := compact_a p cn5M (stN cn5M 2 [3] []) v [ca, cb] (stN cn5M 2 [3] [ca, cb]) [1, 0] cn5_ok hN ⟨h0.clk, rfl, h0.st, by simp only [stN, List.foldl_nil, cn5_mrg];exact ⟨by simp, by simp⟩, h0.pls, by simp [stN]⟩ (by simp) (fun e he => by
   rcases l5 e he with rfl|rfl
   ·exact ev5_ca
   ·exact ev5_cb)
  rw [c1] at this
  exact this
 have hrd := read5a
 have hlb : ∀ e ∈ [cb], e = ca ∨ e = cb := fun e he => by right;simpa using he
 have hsw := shw5 (l := [cb]) c3 c4 hlb (by decide)
 have k7 := scheck_p cn5M B [cb] N [0, 1] hsw
 have k11 := scheck_p cn5M B [cb] N [2, 1] hsw
 have k0 := scheck_p cn5M B [cb] N [1, 1] hsw
 have r10 : chkF B.clock [cb] [1, 1] [1, 0] = 0 := by rw [c5, chk5 hlb (by decide) (by decide) (by decide) (by decide)];rfl
 have r11 : chkF B.clock [cb] [1, 1] [1, 1] = 0 := by rw [c5, chk5 hlb (by decide) (by decide) (by decide) (by decide)];rfl
 rw [c4, c5, chk5 hlb (by decide) (by decide) (by decide) (by decide), if_neg (by decide)] at k7
 rw [c4, c5, chk5 hlb (by decide) (by decide) (by decide) (by decide), if_pos (by decide), if_neg (by decide)] at k11
 rw [c4, r11] at k0
 obtain ⟨s1, s2⟩ := shows5' B c2
 have m1 := now5 c3 (by rw [c2];rfl) c4 hlb (by decide) r11 s2
 have m2 := com5_p ⟨cn5M, B, [cb], N⟩ c3 c4 c5 hlb (Nat.le_succ 1)
 have m3 := chg5_g c3 (by rw [c2];rfl) c4 hlb (by decide) r10 r11 s1 s2
 have m4 := svalid_g cn5M [(0, 0)] (by decide) cn5_upd
 have m5 := svalid_g cn5M [(0, 1)] (by decide) cn5_upd
 rw [decide_eq_true cn5_q0] at m4
 rw [decide_eq_false (fun h : QrysX cn5M [(0, 1)] => absurd ((cn5_qry 0 1).1 (h.2 _ (by simp))).1 (by decide))] at m5
 have e2 := equal_p [1, 1] [1, 1]
 have e3 := equalQ_p [(0, 0)] [(0, 0)]
 rw [decide_eq_true rfl] at e2 e3
 obtain ⟨M, hM⟩ : ∃ M : ModS, M = cn5M := ⟨_, rfl⟩
 obtain ⟨B0, hB0⟩ : ∃ B : NowS, B = stN cn5M 2 [3] [] := ⟨_, rfl⟩
 obtain ⟨N1, hN1⟩ : ∃ B : NowS, B = stN cn5M 2 [3] [ca] := ⟨_, rfl⟩
 obtain ⟨N2, hN2⟩ : ∃ B : NowS, B = stN cn5M 2 [3] [ca, cb] := ⟨_, rfl⟩
 rw [← hB0, ← hM] at h1
 rw [← hB0, ← hN1, ← hM] at h3
 rw [← hB0, ← hN1, ← hN2, ← hM] at h4
 rw [← hB0, ← hN2, ← hM] at h5 hrd
 rw [← hM] at hc k7 k11 k0 m1 m2 m3 m4 m5
 have hi0 : ([ca, cb] : List EvS)[0]? = some ca := rfl
 have hi1 : ([ca, cb] : List EvS)[1]? = some cb := rfl
 refine CallG.of pg ord9 Tryz.func9 rfl Tryz.ntmps9 Tryz.results9 rfl fun h0 G0 O0 ga => ?_
 repeat' (first|refine Sp.h ?_|refine Lk.r rfl ?_|refine Rf.mk rfl ?_|refine All.mk fun _=>?_|refine xT ?_|refine Ch.l ⟨rfl, rfl⟩ ?_|(apply SetAsk.r;focus repeat' constructor)|(apply Fk.r;focus repeat' first|infer_instance|constructor)|refine xN ?_|refine Rf.mk ⟨rfl, rfl, rfl⟩ ?_|(apply Cl.p (hc);(focus repeat' (first|exact Lend.nil|fail))))
 apply Cl.fx [mdl M, it 2, ints [3]]
 focus (repeat' (first|exact FX.nil|(apply FX.sl;(focus repeat constructor);(focus exact Nat.le_of_ble_eq_true rfl))|(apply FX.le;(focus first|exact ALe.refl _|exact ALe.nil))|apply FX.agg|apply FX.tup))
 refine xW (h1) ?_
 rintro _ _ ⟨p, v, rfl, rfl⟩
 repeat' (first|refine Sp.h ?_|refine Lk.r rfl ?_|refine Rf.mk rfl ?_|refine xA ?_|refine xB ?_|refine xI ?_|refine Ch.l ⟨rfl, rfl⟩ ?_|fail)
 refine xW (h3 p v) ?_
 rintro _ _ ⟨rfl, v1, rfl⟩
 repeat' (first|refine Sp.h ?_|refine Lk.r rfl ?_|refine Rf.mk rfl ?_|refine xA ?_|refine xB ?_|refine xI ?_|refine Ch.l ⟨rfl, rfl⟩ ?_|fail)
 refine xW (h4 p v1) ?_
 rintro _ _ ⟨rfl, v2, rfl⟩
 (repeat' (first|(show CA _ _ (Code.block 0 _) _ _;apply Stopped.out)|refine Sp.h ?_|refine Lk.r rfl ?_|refine Rf.mk rfl ?_|refine xA ?_|refine All.mk fun _=>?_|refine xU ?_|refine xT ?_|(apply SetAsk.r;focus repeat' constructor)|(apply Fk.r;focus repeat' first|infer_instance|constructor)|refine xN ?_|refine Rf.mk ⟨rfl, rfl, rfl⟩ ?_|fail));any_goals apply Stopped.mk
 rename_i b1 w1 b5 w2 w3 w4 w5 w6
 apply CA.freezeX 57 (b := .sl 2 cs53 csC)
 focus rfl
 focus (repeat' (first|exact FX.nil|(apply FX.sl;(focus repeat constructor);(focus exact Nat.le_of_ble_eq_true rfl))|(apply FX.le;(focus first|exact ALe.refl _|exact ALe.nil))|apply FX.agg|apply FX.tup))
 repeat' (first|refine Sp.h ?_|fail)
 refine CA.loop (fun i : Nat => ⟨[(1, pm b1), (3, pm p), (5, pm b5), (57, .sl 2 cs53 csC), (58, it 4), (59, it i)], [blkR b1 30 (modC M), blkR b5 102 [it 0, it 0], stoR p M B0 v2 N2, arrR v2 66 13 [ca, cb] evC]⟩) (fun i => i ≤ 4) (fun i => 4 - i) 0 xE (Nat.zero_le _) ?_
 intro i hi
 by_cases hin : i < 4
 ·obtain ⟨q, hq⟩ : ∃ q, cs53[i]? = some q := get_of hin
  have hr := hrd i q hq
  have he := equal_p [q.2] [q.2]
  have hq0 : [[q.2]][0]? = some [q.2] := rfl
  rw [decide_eq_true rfl] at he
  repeat' (first|refine Sp.h ?_|refine Lk.r rfl ?_|refine Rf.mk rfl ?_|refine xA ?_|refine All.mk fun _=>?_|refine xT ?_|refine xI ?_|refine Ch.l ⟨rfl, rfl⟩ ?_|(apply SetAsk.r;focus repeat' constructor)|(apply Fk.r;focus repeat' first|infer_instance|constructor)|refine xN ?_|refine Rf.mk ⟨rfl, rfl, rfl⟩ ?_|fail)
  refine Cl.readG hr ga ⟨by simp, by simp⟩ (by repeat' (first|exact Lend.nil|apply Lend.keep|(apply Lend.lendm;(focus repeat constructor);(focus rfl);(focus first|omega|decide|(simp;omega)|exact Nat.le_of_ble_eq_true rfl))|(apply Lend.cell;(focus repeat constructor))|fail)) ?_
  repeat' (first|refine Sp.h ?_|refine Lk.r rfl ?_|refine Rf.mk rfl ?_|refine xA ?_|refine OpK.r rfl ?_|refine Im.mk fun _=>?_|refine All.mk fun _=>?_|refine xT ?_|refine xI ?_|(apply Fk.r;focus repeat' first|infer_instance|constructor)|refine Rf.mk ⟨rfl, rfl, rfl⟩ ?_|refine xD ?_|refine xO ?_|(apply Cl.lend (he);(focus ((repeat' (first|exact Lend.nil|apply Lend.keep|(apply Lend.lendm;(focus repeat constructor);(focus rfl);(focus first|omega|decide|(simp;omega)|exact Nat.le_of_ble_eq_true rfl))|fail));done))))
  all_goals exact PA.lp (i + 1) xE ⟨by omega, by omega⟩
 ·have : i = 4 := by omega
  subst this
  repeat' (first|refine Sp.h ?_|refine Lk.r rfl ?_|refine Rf.mk rfl ?_|refine xB ?_|refine All.mk fun _=>?_|(apply Fk.r;focus repeat' first|infer_instance|constructor)|refine Rf.mk ⟨rfl, rfl, rfl⟩ ?_|fail)
  apply Cl.fx [pm p, ints [1, 0]]
  focus (repeat' (first|exact FX.nil|(apply FX.sl;(focus repeat constructor);(focus exact Nat.le_of_ble_eq_true rfl))|(apply FX.le;(focus first|exact ALe.refl _|exact ALe.nil))|apply FX.agg|apply FX.tup))
  refine xW (h5 p v2) ?_
  rintro _ _ ⟨rfl, v3, rfl⟩
  repeat' (first|refine Sp.h ?_|refine Lk.r rfl ?_|refine Rf.mk rfl ?_|refine xA ?_|refine All.mk fun _=>?_|(apply Fk.r;focus repeat' first|infer_instance|constructor)|refine Rf.mk ⟨rfl, rfl, rfl⟩ ?_|fail)
  repeat' (first|(show CA _ _ (Code.region 15 _ _) _ _;apply Stopped.out)|refine Sp.h ?_|refine Lk.r rfl ?_|refine Rf.mk rfl ?_|refine xA ?_|refine All.mk fun _=>?_|(apply Fk.r;focus repeat' first|infer_instance|constructor)|refine Rf.mk ⟨rfl, rfl, rfl⟩ ?_|(apply Cl.lend k7;(focus ((repeat' (first|exact Lend.nil|apply Lend.keep|(apply Lend.lendm;(focus repeat constructor);(focus rfl);(focus first|omega|decide|(simp;omega)|exact Nat.le_of_ble_eq_true rfl))|(apply Lend.cell;(focus repeat constructor))|fail));done)))|(apply Cl.lend k11;(focus ((repeat' (first|exact Lend.nil|apply Lend.keep|(apply Lend.lendm;(focus repeat constructor);(focus rfl);(focus first|omega|decide|(simp;omega)|exact Nat.le_of_ble_eq_true rfl))|(apply Lend.cell;(focus repeat constructor))|fail));done)))|(apply Cl.lend k0;(focus ((repeat' (first|exact Lend.nil|apply Lend.keep|(apply Lend.lendm;(focus repeat constructor);(focus rfl);(focus first|omega|decide|(simp;omega)|exact Nat.le_of_ble_eq_true rfl))|(apply Lend.cell;(focus repeat constructor))|fail));done))))
  any_goals apply Stopped.mk
  (apply CA.own;(focus (apply OX.blk (b := p);(focus repeat constructor);(focus (repeat' (first|exact FX.nil|(apply FX.s1;(focus repeat constructor);(focus first|omega|(simp;done)|(simp;omega)))|apply FX.k)));(focus repeat constructor))))
  apply CA.freezeB 3
  focus rfl
  focus (repeat constructor)
  repeat' (first|refine Sp.h ?_|refine Lk.r rfl ?_|refine Rf.mk rfl ?_|refine All.mk fun _=>?_|refine xT ?_|refine Ch.l ⟨rfl, rfl⟩ ?_|(apply Fk.r;focus repeat' first|infer_instance|constructor)|refine Rf.mk ⟨rfl, rfl, rfl⟩ ?_|fail)
  apply Cl.fx [mdl M, .ad (stoV M B [cb] N) 0, qrys [(0, 0)]]
  focus (repeat' (first|exact FX.nil|(apply FX.sl;(focus repeat constructor);(focus exact Nat.le_of_ble_eq_true rfl))|(apply FX.le;(focus first|exact ALe.refl _|exact ALe.nil))|apply FX.agg|apply FX.tup))
  (apply Cl.pG (m1);(focus exact ga);focus repeat' constructor)
  repeat' (first|refine Sp.h ?_|refine Lk.r rfl ?_|refine Rf.mk rfl ?_|refine All.mk fun _=>?_|(apply Fk.r;focus repeat' first|infer_instance|constructor)|refine Rf.mk ⟨rfl, rfl, rfl⟩ ?_|fail)
  apply Cl.fx [.sl 1 [some ⟨M, B, [cb], N⟩, some ⟨M, B, [cb], N⟩] sqC]
  focus (repeat' (first|exact FX.nil|(apply FX.sl;(focus repeat constructor);(focus exact Nat.le_of_ble_eq_true rfl))|(apply FX.le;(focus first|exact ALe.refl _|exact ALe.nil))|apply FX.agg|apply FX.tup))
  apply Cl.p m2
  focus (repeat' (first|exact Lend.nil|apply Lend.keep|fail))
  repeat' (first|refine Sp.h ?_|refine Lk.r rfl ?_|refine Rf.mk rfl ?_|refine All.mk fun _=>?_|refine xT ?_|refine Ch.l ⟨rfl, rfl⟩ ?_|(apply Fk.r;focus repeat' first|infer_instance|constructor)|refine Rf.mk ⟨rfl, rfl, rfl⟩ ?_|fail)
  apply Cl.fx [mdl M, .ad (stoV M B [cb] N) 0, ints [1, 0], ints [1, 1]]
  focus (repeat' (first|exact FX.nil|(apply FX.sl;(focus repeat constructor);(focus exact Nat.le_of_ble_eq_true rfl))|(apply FX.le;(focus first|exact ALe.refl _|exact ALe.nil))|apply FX.agg|apply FX.tup))
  (apply Cl.pG (m3);(focus exact ga);focus repeat' constructor)
  repeat' (first|refine Sp.h ?_|refine Lk.r rfl ?_|refine Rf.mk rfl ?_|refine xA ?_|refine All.mk fun _=>?_|(apply Fk.r;focus repeat' first|infer_instance|constructor)|refine Rf.mk ⟨rfl, rfl, rfl⟩ ?_|fail)
  repeat' (first|refine Sp.h ?_|refine Lk.r rfl ?_|refine Rf.mk rfl ?_|refine xA ?_|refine All.mk fun _=>?_|refine xT ?_|refine Ch.l ⟨rfl, rfl⟩ ?_|(apply Fk.r;focus repeat' first|infer_instance|constructor)|refine xN ?_|refine Rf.mk ⟨rfl, rfl, rfl⟩ ?_|(apply Cl.lend e2;(focus ((repeat' (first|exact Lend.nil|apply Lend.keep|(apply Lend.lendm;(focus repeat constructor);(focus rfl);(focus first|omega|decide|(simp;omega)|exact Nat.le_of_ble_eq_true rfl))|fail));done)))|(apply Cl.lend e3;(focus ((repeat' (first|exact Lend.nil|apply Lend.keep|(apply Lend.lendm;(focus repeat constructor);(focus rfl);(focus first|omega|decide|(simp;omega)|exact Nat.le_of_ble_eq_true rfl))|fail));done)))|(apply Cl.lendG m4;(focus exact ga);(focus ((repeat' (first|exact Lend.nil|apply Lend.keep|(apply Lend.lendm;(focus repeat constructor);(focus rfl);(focus first|omega|decide|(simp;omega)|exact Nat.le_of_ble_eq_true rfl))|fail));done)))|(apply Cl.lendG m5;(focus exact ga);(focus ((repeat' (first|exact Lend.nil|apply Lend.keep|(apply Lend.lendm;(focus repeat constructor);(focus rfl);(focus first|omega|decide|(simp;omega)|exact Nat.le_of_ble_eq_true rfl))|fail));done))))
  all_goals exact Fin.p rfl rfl
end Go.Proofs.YtmjllbjfkafhdaaGreatDoor
namespace Go.Proofs.YtmjllbjfkafhdaaGreatDoor
open Go Go.CF
set_option maxRecDepth 20000
theorem st0_clk (k : Nat) : (stN cn5M k [3] []).clock = List.replicate k 0 := rfl
theorem sz5k (k : Nat) (hk : k ≤ 5) : SzN (stN cn5M k [3] []) := by
 refine ⟨by rw [st0_clk, List.length_replicate];omega, by simp [stN], ?_, ?_, by simp [stN]⟩
 ·simp only [stN, List.foldl_nil, cn5_mrg];simp
 ·simp only [stN, List.foldl_nil, cn5_mrg];simp
theorem new5 (k : Nat) (h1 : 1 ≤ k) (h5 : k ≤ 5) : CallA Tryz.prog 35 [mdl cn5M, it (k : Nat), ints [3]] [] fun q own => ∃ p v, q = .tup [pm p, it 0] ∧ own = [stoR p cn5M (stN cn5M k [3] []) v (stN cn5M k [3] []), arrR v 66 13 [] evC] := new35_a cn5M k [3] cn5_ok (by omega) (by rw [cn5_str];rfl) (insS_ld (by simp))
noncomputable def st5Q (k : Nat) : StoQ := ⟨cn5M, stN cn5M k [3] [], [], stN cn5M k [3] []⟩
theorem shw0 (k : Nat) (hk : k ≤ 5) : ShwS (st5Q k).b (st5Q k).l (st5Q k).w := ⟨sz5k k hk, by rw [st5Q, st0_clk, List.length_replicate];omega, by simp [st5Q], fun e he => by simp [st5Q] at he⟩
theorem val0 (k : Nat) (h1 : 1 ≤ k) (h5 : k ≤ 5) : ValC (List.replicate k 0) := ⟨fun x hx => by
 rw [List.eq_of_mem_replicate hx];unfold rngK;decide, by rw [List.length_replicate];exact h1, by rw [List.length_replicate];exact h5⟩
theorem comE {L : List (Option StoQ)} {code : Int} (hL : L.length ≤ 1000000) (h : ∀ s, some s ∈ L → ShwS s.b s.l s.w) (hc : comF L = code) (h0 : code ≠ 0) : CallP Tryz.prog 39 [.sl 1 L sqC] (.tup [nl0, it code]) := by
 have := scommon_a L hL h
 rw [hc] at this
 refine CallA.mono this ?_
 rintro r o (⟨_, rfl, rfl⟩|⟨h, _⟩)
 ·exact ⟨rfl, rfl⟩
 ·exact absurd h h0
theorem com_nil : CallP Tryz.prog 39 [.sl 1 [] sqC] (.tup [nl0, it 1]) :=
 comE (by simp) (fun s hs => by cases hs) (if_pos (.inr fun h => absurd h.1 (by simp [sclkF]))) (by decide)
theorem com_none (k : Nat) (hk : k ≤ 5) : CallP Tryz.prog 39 [.sl 1 [some (st5Q k), none] sqC] (.tup [nl0, it 1]) :=
 comE (by simp) (fun s hs => by
  simp only [List.mem_cons, List.not_mem_nil, or_false, Option.some.injEq, reduceCtorEq] at hs
  subst hs
  exact shw0 k hk) (if_pos (.inl (by simp))) (by decide)
theorem shw00 {k j : Nat} (hk : k ≤ 5) (hj : j ≤ 5) : ∀ s, some s ∈ [some (st5Q k), some (st5Q j)] → ShwS s.b s.l s.w := fun s hs => by
 simp only [List.mem_cons, List.not_mem_nil, or_false, Option.some.injEq] at hs
 rcases hs with rfl|rfl
 ·exact shw0 k hk
 ·exact shw0 j hj
theorem com_diff (k j : Nat) (h1 : k ≤ 5) (h2 : j ≤ 5) (hne : k ≠ j) : CallP Tryz.prog 39 [.sl 1 [some (st5Q k), some (st5Q j)] sqC] (.tup [nl0, it 1]) :=
 comE (by simp) (shw00 h1 h2) (if_pos (.inr fun h => by
  have := (h.2 (List.replicate j 0) (by simp [sclkF, st5Q, st0_clk])).2
  simp [sclkF, st5Q, st0_clk] at this
  exact hne this.symm)) (by decide)
theorem com_same (k : Nat) (h1 : 1 ≤ k) (h5 : k ≤ 5) : CallP Tryz.prog 39 [.sl 1 [some (st5Q k), some (st5Q k)] sqC] (.tup [ints (List.replicate k 0), it 0]) := by
 have h := scommon_a [some (st5Q k), some (st5Q k)] (by simp) (shw00 h5 h5)
 have hv := val0 k h1 h5
 have h3 : sclkF [some (st5Q k), some (st5Q k)] = [List.replicate k 0, List.replicate k 0] := rfl
 have hz : zipC min (List.replicate k 0) (List.replicate k 0) = List.replicate k 0 := by
  simp [zipC]
 have hf : foldC min (sclkF [some (st5Q k), some (st5Q k)]) = List.replicate k 0 := by rw [h3];exact hz
 have hc : comF [some (st5Q k), some (st5Q k)] = 0 := by
  rw [comF, if_neg, if_neg]
  ·rintro ⟨s', hs, h⟩
   simp only [List.mem_cons, List.not_mem_nil, or_false, or_self, Option.some.injEq] at hs
   subst hs
   apply h
   rw [hf]
   exact (conC_iff _ _).2 ⟨⟨hv, hv, rfl⟩, fun i x y hx hy => by rw [show (st5Q k).b.clock = List.replicate k 0 from rfl] at hx;rw [hx] at hy;cases hy;omega⟩
  ·rintro (h|h)
   ·simp at h
   ·apply h
    rw [h3]
    refine ⟨by simp, fun c hc => ?_⟩
    simp only [List.mem_cons, List.not_mem_nil, or_false, or_self] at hc
    subst hc
    exact ⟨hv, rfl⟩
 rw [hc, hf] at h
 refine CallA.fx h ?_
 rintro r o (⟨h, _⟩|⟨_, u, rfl, rfl⟩)
 ·exact absurd rfl h
 exact .tup (.s1 .here (by simp;omega) (.le (ALe.refl _) .nil)) .nil
theorem ca5_3 : ∃ B N, compactF cn5M ⟨stN cn5M 2 [3] [], [ca], stN cn5M 2 [3] [ca]⟩ [1, 0] = (0, ⟨B, [], N⟩) ∧ SzN B ∧ N.clock = [1, 0] ∧ B.clock = [1, 0] := by
 have hb : (stN cn5M 2 [3] []).clock = [0, 0] := rfl
 have hn : (stN cn5M 2 [3] [ca]).clock = [1, 0] := rfl
 obtain ⟨h1, h2⟩ := has_2 1 0 (by decide) (by decide)
 have e1 : inL [1, 0] [ca] = [ca] := by
  have a1 : HasC [1, 0] ca.rep ca.num := h1.2 (by decide)
  simp [inL, a1]
 have e2 : outL [1, 0] [ca] = [] := by
  have a1 : HasC [1, 0] ca.rep ca.num := h1.2 (by decide)
  simp [outL, a1]
 refine ⟨cmpB cn5M (stN cn5M 2 [3] []) [1, 0] [ca], { stN cn5M 2 [3] [ca] with merged := [].foldl (mrg1 cn5M) (cmpB cn5M (stN cn5M 2 [3] []) [1, 0] [ca]).merged }, ?_, ?_, hn, rfl⟩
 ·have q1 : ValC [1, 0] ∧ ([1, 0] : List Int).length = (stN cn5M 2 [3] [ca]).clock.length := ⟨val2 1 0 (by decide) (by decide), rfl⟩
  have q2 : Ins (stN cn5M 2 [3] []).clock [1, 0] ∧ Ins [1, 0] (stN cn5M 2 [3] [ca]).clock ∧ ∀ e ∈ [ca], HasC [1, 0] e.rep e.num → Ins e.past [1, 0] := by
   refine ⟨by rw [hb];exact ins_2 (by decide) (by decide), by rw [hn];exact ins_2 (by decide) (by decide), fun e he _ => ?_⟩
   simp only [List.mem_cons, List.not_mem_nil, or_false] at he
   subst he
   exact ins_2 (by decide) (by decide)
  refine (@if_neg _ (Classical.propDecidable _) (fun h9 => h9 q1) _ _ _).trans ((@if_neg _ (Classical.propDecidable _) (fun h9 => h9 q2) _ _ _).trans ?_)
  simp only [e2]
 ·rw [cmpB, e1]
  have hsz : SzM (mrg1 cn5M (stN cn5M 2 [3] []).merged ca) := mrg1_sz (by
   simp only [stN, List.foldl_nil, cn5_mrg]
   exact ⟨by simp, by simp⟩)
  exact ⟨by simp, by simp only [List.foldl_cons, List.foldl_nil, cmp1, addE_len];simp [stN], hsz.1, hsz.2, by simp only [List.foldl_cons, List.foldl_nil, cmp1];simp [stN, plE, ca]⟩
theorem com_beh {B N : NowS} (hB : SzN B) (hN : N.clock = [1, 0]) (hb : B.clock = [1, 0]) : CallP Tryz.prog 39 [.sl 1 [some (st5Q 2), some ⟨cn5M, B, [], N⟩] sqC] (.tup [nl0, it 7]) := by
 have hv0 := val2 0 0 (by decide) (by decide)
 have hv1 := val2 1 0 (by decide) (by decide)
 have h3 : sclkF [some (st5Q 2), some ⟨cn5M, B, [], N⟩] = [[0, 0], [1, 0]] := by simp [sclkF, hN];rfl
 have hf : foldC min (sclkF [some (st5Q 2), some ⟨cn5M, B, [], N⟩]) = [0, 0] := by rw [h3];rfl
 refine comE (by simp) (fun s hs => ?_) ?_ (by decide)
 ·simp only [List.mem_cons, List.not_mem_nil, or_false, Option.some.injEq] at hs
  rcases hs with rfl|rfl
  ·exact shw0 2 (by decide)
  ·exact ⟨hB, by simp only [hN];decide, by simp, fun e he => by cases he⟩
 ·rw [comF, if_neg, if_pos]
  ·refine ⟨⟨cn5M, B, [], N⟩, by simp, fun h => ?_⟩
   ·rw [hf, hb] at h
    exact absurd ((con_2 (by decide) (by decide) (by decide) (by decide)).1 h).1 (by decide)
  ·rintro (h|h)
   ·simp at h
   ·apply h
    rw [h3]
    refine ⟨by simp, fun c hc => ?_⟩
    simp only [List.mem_cons, List.not_mem_nil, or_false] at hc
    rcases hc with rfl|rfl
    ·exact ⟨hv0, rfl⟩
    ·exact ⟨hv1, rfl⟩
end Go.Proofs.YtmjllbjfkafhdaaGreatDoor
namespace Go.Proofs.YtmjllbjfkafhdaaGreatDoor
open Go Go.CF
set_option maxRecDepth 20000
set_option maxHeartbeats 8000000 in
theorem errors53_g (x y : Int) (hx : 0 ≤ x ∧ x ≤ 255) (hy : 0 ≤ y ∧ y ≤ 255) : CallGP Tryz.prog 7 [.val (.int .u8 x), .val (.int .u8 y)] (bl true) := by
 have ha := awake53_g
 have hc := exm_p
 obtain ⟨k, hk⟩ : ∃ k : Nat, (k : Int) = 1 + x % 5 := ⟨(1 + x % 5).toNat, by omega⟩
 obtain ⟨j, hj⟩ : ∃ k : Nat, (k : Int) = 1 + y % 5 := ⟨(1 + y % 5).toNat, by omega⟩
 have hxt : x.tmod 5 = x % 5 := Int.tmod_eq_emod_of_nonneg hx.1
 have hyt : y.tmod 5 = y % 5 := Int.tmod_eq_emod_of_nonneg hy.1
 have n1 := new5 k (by omega) (by omega)
 have n2 := new5 j (by omega) (by omega)
 have n3 := new5 2 (by omega) (by omega)
 have h3 : ∀ p v, CallA Tryz.prog 37 [pm p, evA' ca] [stoR p cn5M (stN cn5M 2 [3] []) v (stN cn5M 2 [3] []), arrR v 66 13 ([] : List EvS) evC] fun r own => r = it 0 ∧ ∃ v', own = [stoR p cn5M (stN cn5M 2 [3] []) v' (stN cn5M 2 [3] [ca]), arrR v' 66 13 [ca] evC] := fun p v => by
  have := deliver_a p cn5M (stN cn5M 2 [3] []) v [] (stN cn5M 2 [3] []) ca cn5_ok (stN_ok5 [] (by simp) (by simp)) (by simp)
  rw [evsD, cab5_1, if_pos rfl] at this
  exact this
 obtain ⟨B, N, c1, c3, c4, c5⟩ := ca5_3
 have h5 : ∀ p v, CallA Tryz.prog 44 [pm p, ints [1, 0]] [stoR p cn5M (stN cn5M 2 [3] []) v (stN cn5M 2 [3] [ca]), arrR v 66 13 [ca] evC] fun r own => r = it 0 ∧ ∃ v', own = [stoR p cn5M B v' N, arrR v' 66 13 ([] : List EvS) evC] := fun p v => by
  have hN := stN_ok5 [ca] (by simp) (by simp)
  have h0 := stN_ok5 [] (by simp) (by simp)
  have := compact_a p cn5M (stN cn5M 2 [3] []) v [ca] (stN cn5M 2 [3] [ca]) [1, 0] cn5_ok hN ⟨h0.clk, rfl, h0.st, by simp only [stN, List.foldl_nil, cn5_mrg];exact ⟨by simp, by simp⟩, h0.pls, by simp [stN]⟩ (by simp) (fun e he => by
   simp only [List.mem_cons, List.not_mem_nil, or_false] at he
   subst he
   exact ev5_ca)
  rw [c1] at this
  exact this
 have g1 := com_nil
 have g2 := com_none k (by omega)
 have g3 : CallP Tryz.prog 39 [.sl 1 [some (st5Q k), some (st5Q j)] sqC] (if k = j then .tup [ints (List.replicate k 0), it 0] else .tup [nl0, it 1]) := by
  by_cases h : k = j
  ·rw [if_pos h, ← h];exact com_same k (by omega) (by omega)
  ·rw [if_neg h];exact com_diff k j (by omega) (by omega) h
 have g4 := com_beh c3 c4 c5
 have g5 := scheck_nil [0, 0]
 unfold st5Q at g2 g3 g4
 obtain ⟨M, hM⟩ : ∃ M : ModS, M = cn5M := ⟨_, rfl⟩
 obtain ⟨Bk, hBk⟩ : ∃ B : NowS, B = stN cn5M k [3] [] := ⟨_, rfl⟩
 obtain ⟨Bj, hBj⟩ : ∃ B : NowS, B = stN cn5M j [3] [] := ⟨_, rfl⟩
 obtain ⟨B2, hB2⟩ : ∃ B : NowS, B = stN cn5M 2 [3] [] := ⟨_, rfl⟩
 obtain ⟨N1, hN1⟩ : ∃ B : NowS, B = stN cn5M 2 [3] [ca] := ⟨_, rfl⟩
 rw [← hBk, ← hM] at n1 g2
 rw [← hBj, ← hM] at n2
 rw [← hBk, ← hBj, ← hM] at g3
 rw [← hB2, ← hM] at n3 g4
 rw [← hB2, ← hN1, ← hM] at h3 h5
 rw [← hM] at hc
 rw [hk] at n1
 rw [hj] at n2
 have hi0 : ([ca, cb] : List EvS)[0]? = some ca := rfl
 refine CallG.of pg ord7 Tryz.func7 rfl Tryz.ntmps7 Tryz.results7 rfl fun h0 G0 O0 ga => ?_
 repeat' (first|refine Sp.h ?_|refine Lk.r rfl ?_|refine Rf.mk rfl ?_|refine xA ?_|(apply Cl.pG (ha);(focus exact ga);(focus ((repeat' (first|exact Lend.nil|fail));done))))
 all_goals try exact (by assumption : False).elim
 (apply Cl.p (hc);(focus repeat' (first|exact Lend.nil|fail)))
 repeat' (first|refine Sp.h ?_|refine Lk.r rfl ?_|refine Rf.mk rfl ?_|refine xP ?_|refine All.mk fun _=>?_|refine xT ?_|refine Ch.l ⟨rfl, rfl⟩ ?_|(apply SetAsk.r;focus repeat' constructor)|(apply Fk.r;focus repeat' first|infer_instance|constructor)|refine xN ?_|refine Rf.mk ⟨rfl, rfl, rfl⟩ ?_|refine xO ?_|(apply Cvk.i64;(focus rfl);(focus omega))|fail)
 apply Cl.fx [mdl M, it (1 + x % 5), ints [3]]
 focus (repeat' (first|exact FX.nil|(apply FX.sl;(focus repeat constructor);(focus exact Nat.le_of_ble_eq_true rfl))|(apply FX.le;(focus first|exact ALe.refl _|exact ALe.nil))|apply FX.agg|apply FX.tup))
 refine xW (n1) ?_
 rintro _ _ ⟨p1, v1, rfl, rfl⟩
 repeat' (first|refine Sp.h ?_|refine Lk.r rfl ?_|refine Rf.mk rfl ?_|refine xP ?_|refine All.mk fun _=>?_|refine xT ?_|refine Ch.l ⟨rfl, rfl⟩ ?_|(apply Fk.r;focus repeat' first|infer_instance|constructor)|refine Rf.mk ⟨rfl, rfl, rfl⟩ ?_|refine xO ?_|(apply Cvk.i64;(focus rfl);(focus omega))|fail)
 apply Cl.fx [mdl M, it (1 + y % 5), ints [3]]
 focus (repeat' (first|exact FX.nil|(apply FX.sl;(focus repeat constructor);(focus exact Nat.le_of_ble_eq_true rfl))|(apply FX.le;(focus first|exact ALe.refl _|exact ALe.nil))|apply FX.agg|apply FX.tup))
 refine xW (n2) ?_
 rintro _ _ ⟨p2, v2, rfl, rfl⟩
 repeat' (first|refine Sp.h ?_|refine Lk.r rfl ?_|refine Rf.mk rfl ?_|refine All.mk fun _=>?_|refine xT ?_|refine Ch.l ⟨rfl, rfl⟩ ?_|(apply Fk.r;focus repeat' first|infer_instance|constructor)|refine Rf.mk ⟨rfl, rfl, rfl⟩ ?_|fail)
 apply Cl.fx [mdl M, it 2, ints [3]]
 focus (repeat' (first|exact FX.nil|(apply FX.sl;(focus repeat constructor);(focus exact Nat.le_of_ble_eq_true rfl))|(apply FX.le;(focus first|exact ALe.refl _|exact ALe.nil))|apply FX.agg|apply FX.tup))
 refine xW (n3) ?_
 rintro _ _ ⟨p3, v3, rfl, rfl⟩
 repeat' (first|refine Sp.h ?_|refine Lk.r rfl ?_|refine Rf.mk rfl ?_|refine All.mk fun _=>?_|refine xT ?_|refine Ch.l ⟨rfl, rfl⟩ ?_|(apply Fk.r;focus repeat' first|infer_instance|constructor)|refine Rf.mk ⟨rfl, rfl, rfl⟩ ?_|fail)
 apply Cl.fx [mdl M, it 2, ints [3]]
 focus (repeat' (first|exact FX.nil|(apply FX.sl;(focus repeat constructor);(focus exact Nat.le_of_ble_eq_true rfl))|(apply FX.le;(focus first|exact ALe.refl _|exact ALe.nil))|apply FX.agg|apply FX.tup))
 refine xW (n3) ?_
 rintro _ _ ⟨p4, v4, rfl, rfl⟩
 repeat' (first|refine Sp.h ?_|refine Lk.r rfl ?_|refine Rf.mk rfl ?_|refine xA ?_|refine xB ?_|refine xI ?_|refine Ch.l ⟨rfl, rfl⟩ ?_|fail)
 refine xW (h3 p3 v3) ?_
 rintro _ _ ⟨rfl, v5, rfl⟩
 repeat' (first|refine Sp.h ?_|refine Lk.r rfl ?_|refine Rf.mk rfl ?_|refine xA ?_|refine All.mk fun _=>?_|(apply Fk.r;focus repeat' first|infer_instance|constructor)|refine Rf.mk ⟨rfl, rfl, rfl⟩ ?_|fail)
 apply Cl.fx [pm p3, ints [1, 0]]
 focus (repeat' (first|exact FX.nil|(apply FX.sl;(focus repeat constructor);(focus exact Nat.le_of_ble_eq_true rfl))|(apply FX.le;(focus first|exact ALe.refl _|exact ALe.nil))|apply FX.agg|apply FX.tup))
 refine xW (h5 p3 v5) ?_
 rintro _ _ ⟨rfl, v6, rfl⟩
 (repeat' (first|(show CA _ _ (Code.region 12 _ _) _ _;apply Stopped.out)|refine Sp.h ?_|refine Lk.r rfl ?_|refine xA ?_|fail));any_goals apply Stopped.mk
 (apply CA.own;(focus (apply OX.blk (b := p1);(focus repeat constructor);(focus (repeat' (first|exact FX.nil|(apply FX.s1;(focus repeat constructor);(focus first|omega|(simp;done)|(simp;omega)))|apply FX.k)));(focus repeat constructor))))
 apply CA.freezeB 7
 focus rfl
 focus (repeat constructor)
 (apply CA.own;(focus (apply OX.blk (b := p2);(focus repeat constructor);(focus (repeat' (first|exact FX.nil|(apply FX.s1;(focus repeat constructor);(focus first|omega|(simp;done)|(simp;omega)))|apply FX.k)));(focus repeat constructor))))
 apply CA.freezeB 9
 focus rfl
 focus (repeat constructor)
 (apply CA.own;(focus (apply OX.blk (b := p3);(focus repeat constructor);(focus (repeat' (first|exact FX.nil|(apply FX.s1;(focus repeat constructor);(focus first|omega|(simp;done)|(simp;omega)))|apply FX.k)));(focus repeat constructor))))
 apply CA.freezeB 11
 focus rfl
 focus (repeat constructor)
 (apply CA.own;(focus (apply OX.blk (b := p4);(focus repeat constructor);(focus (repeat' (first|exact FX.nil|(apply FX.s1;(focus repeat constructor);(focus first|omega|(simp;done)|(simp;omega)))|apply FX.k)));(focus repeat constructor))))
 apply CA.freezeB 13
 focus rfl
 focus (repeat constructor)
 repeat' (first|refine Sp.h ?_|refine Lk.r rfl ?_|refine Rf.mk rfl ?_|fail)
 apply Cl.fx [.sl 1 ([] : List (Option StoQ)) sqC]
 focus (repeat' (first|exact FX.nil|(apply FX.sl;(focus repeat constructor);(focus exact Nat.le_of_ble_eq_true rfl))|(apply FX.le;(focus first|exact ALe.refl _|exact ALe.nil))|apply FX.agg|apply FX.tup))
 apply Cl.p g1
 focus (repeat' (first|exact Lend.nil|apply Lend.keep|fail))
 repeat' (first|refine Sp.h ?_|refine Lk.r rfl ?_|refine Rf.mk rfl ?_|refine All.mk fun _=>?_|(apply Fk.r;focus repeat' first|infer_instance|constructor)|refine Rf.mk ⟨rfl, rfl, rfl⟩ ?_|fail)
 apply Cl.fx [.sl 1 [some ⟨M, Bk, [], Bk⟩, none] sqC]
 focus (repeat' (first|exact FX.nil|(apply FX.sl;(focus repeat constructor);(focus exact Nat.le_of_ble_eq_true rfl))|(apply FX.le;(focus first|exact ALe.refl _|exact ALe.nil))|apply FX.agg|apply FX.tup))
 apply Cl.p g2
 focus (repeat' (first|exact Lend.nil|apply Lend.keep|fail))
 repeat' (first|refine Sp.h ?_|refine Lk.r rfl ?_|refine Rf.mk rfl ?_|refine All.mk fun _=>?_|(apply Fk.r;focus repeat' first|infer_instance|constructor)|refine Rf.mk ⟨rfl, rfl, rfl⟩ ?_|fail)
 apply Cl.fx [.sl 1 [some ⟨M, Bk, [], Bk⟩, some ⟨M, Bj, [], Bj⟩] sqC]
 focus (repeat' (first|exact FX.nil|(apply FX.sl;(focus repeat constructor);(focus exact Nat.le_of_ble_eq_true rfl))|(apply FX.le;(focus first|exact ALe.refl _|exact ALe.nil))|apply FX.agg|apply FX.tup))
 by_cases hkj : k = j
 ·rw [if_pos hkj] at g3
  apply Cl.p g3
  focus (repeat' (first|exact Lend.nil|apply Lend.keep|fail))
  repeat' (first|refine Sp.h ?_|refine Lk.r rfl ?_|refine Rf.mk rfl ?_|refine All.mk fun _=>?_|(apply Fk.r;focus repeat' first|infer_instance|constructor)|refine Rf.mk ⟨rfl, rfl, rfl⟩ ?_|fail)
  apply Cl.fx [.sl 1 [some ⟨M, B2, [], B2⟩, some ⟨M, B, [], N⟩] sqC]
  focus (repeat' (first|exact FX.nil|(apply FX.sl;(focus repeat constructor);(focus exact Nat.le_of_ble_eq_true rfl))|(apply FX.le;(focus first|exact ALe.refl _|exact ALe.nil))|apply FX.agg|apply FX.tup))
  apply Cl.p g4
  focus (repeat' (first|exact Lend.nil|apply Lend.keep|fail))
  repeat' (first|refine Sp.h ?_|refine Lk.r rfl ?_|refine Rf.mk rfl ?_|refine xA ?_|refine xP ?_|refine Im.mk fun _=>?_|refine All.mk fun _=>?_|(apply Fk.r;focus repeat' first|infer_instance|constructor)|refine xN ?_|refine Rf.mk ⟨rfl, rfl, rfl⟩ ?_|refine xO ?_|(apply Cvk.i64;(focus rfl);(focus omega))|(apply Cl.lend g5;(focus ((repeat' (first|exact Lend.nil|apply Lend.keep|(apply Lend.lendm;(focus repeat constructor);(focus rfl);(focus first|omega|decide|(simp;omega)|exact Nat.le_of_ble_eq_true rfl))|fail));done))))
  all_goals first
   | exact Fin.p rfl rfl
   | exact Fin.p rfl (vb (by simp;omega))
   | exact Fin.p rfl (vb (decide_eq_true (by simp;omega)))
 ·rw [if_neg hkj] at g3
  apply Cl.p g3
  focus (repeat' (first|exact Lend.nil|apply Lend.keep|fail))
  repeat' (first|refine Sp.h ?_|refine Lk.r rfl ?_|refine Rf.mk rfl ?_|refine All.mk fun _=>?_|(apply Fk.r;focus repeat' first|infer_instance|constructor)|refine Rf.mk ⟨rfl, rfl, rfl⟩ ?_|fail)
  apply Cl.fx [.sl 1 [some ⟨M, B2, [], B2⟩, some ⟨M, B, [], N⟩] sqC]
  focus (repeat' (first|exact FX.nil|(apply FX.sl;(focus repeat constructor);(focus exact Nat.le_of_ble_eq_true rfl))|(apply FX.le;(focus first|exact ALe.refl _|exact ALe.nil))|apply FX.agg|apply FX.tup))
  apply Cl.p g4
  focus (repeat' (first|exact Lend.nil|apply Lend.keep|fail))
  repeat' (first|refine Sp.h ?_|refine Lk.r rfl ?_|refine Rf.mk rfl ?_|refine xA ?_|refine xB ?_|refine xP ?_|refine All.mk fun _=>?_|(apply Fk.r;focus repeat' first|infer_instance|constructor)|refine xN ?_|refine Rf.mk ⟨rfl, rfl, rfl⟩ ?_|(apply Cl.lend g5;(focus ((repeat' (first|exact Lend.nil|apply Lend.keep|(apply Lend.lendm;(focus repeat constructor);(focus rfl);(focus first|omega|decide|(simp;omega)|exact Nat.le_of_ble_eq_true rfl))|fail));done))))
  all_goals first
   | exact Fin.p rfl rfl
   | exact Fin.p rfl (vb (by simp;omega))
   | exact Fin.p rfl (vb (decide_eq_true (by simp;omega)))
end Go.Proofs.YtmjllbjfkafhdaaGreatDoor
