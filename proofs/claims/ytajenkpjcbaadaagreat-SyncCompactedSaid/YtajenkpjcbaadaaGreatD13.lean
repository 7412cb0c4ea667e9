/- Part 13 of the ground of this proof: what its texts say of the model, the program and the plain data; conditions: those that are named. -/
import Derived.Test.YtajenkpjcbaadaaGreatD12
namespace Go.CF
open Go
def yl (n : Nat) (Q : Exit → Env → World → Prop) : Exit → Act → World → Prop
 | .panic _, _, _ => False
 | .outgrown, _, _ => False
 | .normal, a, w => a.defers = [] ∧ ∃ env, Agree n env a ∧ Q .normal env w
 | .ret, a, w => a.defers = [] ∧ ∃ env, Agree n env a ∧ Q .ret env w
 | .exit i, a, w => a.defers = [] ∧ ∃ env, Agree n env a ∧ Q (.exit i) env w
 | .goto i, a, w => a.defers = [] ∧ ∃ env, Agree n env a ∧ Q (.goto i) env w
structure YC (P : Program) (n : Nat) (c : Code) (Q : Exit → Env → World → Prop) (env : Env) (w : World) : Prop where
 run : ∀ a, Agree n env a → a.defers = [] → c.wpIn (wide none) 0 P (yl n Q) a w
structure YO (P : Program) (n : Nat) (ops : Array Oper) (Q : Exit → Env → World → Prop) (l : List Oper) (env : Env) (w : World) : Prop where
 run : ∀ a, Agree n env a → a.defers = [] → wpListIn (wide none) 0 P ops (yl n Q) l a w
def thn (K : Env → World → Prop) (Q : Exit → Env → World → Prop) : Exit → Env → World → Prop
 | .normal, e, w => K e w
 | x, e, w => Q x e w
def blkY (id : Nat) (Q : Exit → Env → World → Prop) : Exit → Env → World → Prop
 | .exit i, e, w => if i = id then Q .normal e w else Q (.exit i) e w
 | x, e, w => Q x e w
section
variable {P : Program} {n : Nat} {Q : Exit → Env → World → Prop} {env : Env} {w : World} {ops : Array Oper} {l : List Oper}
theorem YC.seq {x y : Code} (hx : YC P n x (thn (fun e w => YC P n y Q e w) Q) env w) : YC P n (.seq x y) Q env w := by
 refine ⟨fun a ha hd => wpIn_seq (wpIn_mono (hx.run a ha hd) fun e a1 w1 hl => ?_)⟩
 cases e <;> simp only [yl, thn, Exit.then] at hl ⊢
 case normal => obtain ⟨h1, e1, h2, h3⟩ := hl;exact h3.run a1 h2 h1
 all_goals exact hl
theorem YC.skip (hk : Q .normal env w) : YC P n .skip Q env w := ⟨fun _ ha hd => wpIn_skip ⟨hd, env, ha, hk⟩⟩
theorem YC.ret (hk : Q .ret env w) : YC P n .ret Q env w := ⟨fun _ ha hd => wpIn_ret ⟨hd, env, ha, hk⟩⟩
theorem YC.exit {i : Nat} (hk : Q (.exit i) env w) : YC P n (.exit i) Q env w := ⟨fun _ ha hd => wpIn_exit ⟨hd, env, ha, hk⟩⟩
theorem YC.cond {c : Operand} {x y : Code} {b : Bool} (hc : ev env c = some (.bool b)) (hx : b = true → YC P n x Q env w) (hy : b = false → YC P n y Q env w) : YC P n (.cond c x y) Q env w :=
 ⟨fun a ha hd => wpIn_cond_split (ha.ev hc) (fun hb => (hx hb).run a ha hd) (fun hb => (hy hb).run a ha hd)⟩
theorem YC.block {id : Nat} {c : Code} (hc : YC P n c (blkY id Q) env w) : YC P n (.block id c) Q env w := by
 refine ⟨fun a ha hd => wpIn_block (wpIn_mono (hc.run a ha hd) fun e a1 w1 hl => ?_)⟩
 cases e <;> simp only [yl, blkY, Exit.inBlock] at hl ⊢
 case exit i =>
  obtain ⟨h1, e1, h2, h3⟩ := hl
  split
  ·rename_i hi;rw [if_pos hi] at h3;exact ⟨h1, e1, h2, h3⟩
  ·rename_i hi;rw [if_neg hi] at h3;exact ⟨h1, e1, h2, h3⟩
 all_goals exact hl
theorem YC.loop {c : Code} (I : Nat → Env → World → Prop) (m0 : Nat) (h0 : I m0 env w) (round : ∀ m e w, I m e w → YC P n c (thn (fun e' w' => ∃ m', m' < m ∧ I m' e' w') Q) e w) : YC P n (.loop c) Q env w := by
 refine ⟨fun a0 ha0 hd0 b kk cs hro hb hr => ?_⟩
 have key : ∀ m e a w, I m e w → Agree n e a → a.defers = [] →
   ∃ e a' w', yl n Q e a' w' ∧ ArrivesIn (Machine.fenced P (wide none)) P (lone (b.atR a (.code c :: .inLoop c :: kk)) cs w) b kk cs e a' w' := by
  intro m
  induction m using Nat.strongRecOn with
  | _ m ih =>
   intro e a w hI hag hdf
   obtain ⟨x, a1, w1, hq, harr⟩ := (round m e w hI).run a hag hdf b (.inLoop c :: kk) cs hro hb hr
   cases x with
   | normal =>
    simp only [yl, thn] at hq
    obtain ⟨hd1, e1, hag1, m', hlt, hI'⟩ := hq
    obtain ⟨e2, a2, w2, hq2, harr2⟩ := ih m' hlt e1 a1 w1 hI' hag1 hd1
    exact ⟨e2, a2, w2, hq2, .of_steps (StepsIn.trans harr (.one (fenced_calm hb hr rfl) stepR_inLoop)) harr2⟩
   | exit id => exact ⟨(.exit id), a1, w1, (show yl n Q (.exit id) a1 w1 from hq), .pass (x := .inLoop c) rfl (fun _ _ => .inl (by simp)) harr⟩
   | goto l => exact ⟨(.goto l), a1, w1, (show yl n Q (.goto l) a1 w1 from hq), .pass (x := .inLoop c) rfl (fun _ _ => .inl (by simp)) harr⟩
   | ret => exact ⟨.ret, a1, w1, (show yl n Q .ret a1 w1 from hq), .pass (x := .inLoop c) rfl (fun _ _ => .inl (by simp)) harr⟩
   | panic ch => exact hq.elim
   | outgrown => exact hq.elim
 obtain ⟨e, a', w', hq, harr⟩ := key m0 env a0 w h0 ha0 hd0
 exact ⟨e, a', w', hq, .of_steps (.one (fenced_calm hb hr rfl) stepR_loop) harr⟩
theorem YC.region {id : Nat} (hr : YO P n l.toArray Q l env w) : YC P n (.region id l.toArray false) Q env w := ⟨fun a ha hd => wpIn_region_lit (hr.run a ha hd)⟩
theorem YO.nil (hq : Q .normal env w) : YO P n ops Q [] env w := ⟨fun _ ha hd => ⟨hd, env, ha, hq⟩⟩
theorem YO.step {o : Oper} (hg : o.guard = none) (hd : dOK n o.dst = true) (hn : ∀ c, o.op ≠ .defer c) (hs : St P n ([] : List Nat) .read o.dst o.op o.type env w.heap (fun e _ => YO P n ops Q l e w)) : YO P n ops Q (o :: l) env w := by
 obtain ⟨v, h1, h2⟩ := hs.rd rfl
 refine ⟨fun a ha hdf => wpListIn_plain hg fun K hK => ⟨fun _ _ => trivial, ?_⟩⟩
 rw [Oper.semAt_eq _ _ _ hn, exec_mk, h1 a w ha (Stp.refl _)]
 exact hK _ _ (h2.run _ (ha.put hd v) (by rw [put_dfr];exact hdf))
theorem YO.yield {o : Oper} {lp : Nat} {x : Operand} {args : Array Operand} {at' : Array TypeId} {vs : List Value} (ho : o.op = .call { callee := .value x, args := args, argTypes := at' }) (hg : o.guard = none) (hd : dOK n o.dst = true) (hx : ev env x = some (.func (.yield lp) #[] #[])) (hv : evs env args.toList = some vs)
  (hy : YieldAt Fence.wide 0 P lp vs.toArray w fun e w' => ∃ v, e = .returned v ∧ YO P n ops Q l (putE env o.dst v) w') : YO P n ops Q (o :: l) env w := by
 obtain ⟨fn, tmps, assign, body, hrun, hround⟩ := hy
 refine ⟨fun a ha hdf => wpListIn_plain hg fun K hK => ⟨fun _ _ => trivial, ?_⟩⟩
 have hargs : args.map a.eval = vs.toArray := by
  apply Array.ext'
  rw [Array.toList_map]
  exact ha.evs hv
 have h2 : (execOp a.eval (mkOp o.op o.type)).run P w = .ok (.round lp fn tmps assign body) w := by
  rw [ho]
  simp [mkOp, execOp, resolve, invoke, ha.ev hx, hargs, hrun, Deferred.ofValue]
 rw [Oper.semAt_eq _ _ _ (fun c h => by rw [ho] at h;cases h), exec_mk, h2]
 refine ⟨fun h => (by cases h), RoundIn.mono (show RoundIn (wide none) (0 - 1) P lp fn tmps assign body w _ from hround) fun e w' ⟨v, he, hk⟩ => ?_⟩
 subst he
 exact hK _ _ (hk.run _ (ha.put hd v) (by rw [put_dfr];exact hdf))
theorem YC.calls {f : FuncId} {fn : Func} {c : Code} {vs : List Value} {R : World → Prop} (hf : P.funcs[f]? = some fn) (hb : fn.body = some c) (hn : fn.ntmps = n) (hr : fn.results = #[]) (hl : Nat.ble vs.length n = true)
  (hc : YC P n c (fun e _ w' => (e = .normal ∨ e = .ret) ∧ R w') (argE 0 vs) w) : Calls P f vs.toArray w fun e w' => (∃ v, e = .returned v) ∧ R w' := by
 refine calls_of_wp hf hb ((wpIn_wide (n := 0)).1 (wpIn_mono (hc.run _ ⟨?_, fun t v hv => ?_⟩ rfl) fun e a w1 hl => ?_))
 ·have := Nat.le_of_ble_eq_true hl
  simp only [Array.size_append, List.size_toArray, Array.size_replicate, hn]
  omega
 ·obtain ⟨_, h2⟩ := look_argE vs 0 t v hv
  have hlt : t < vs.length := by
   have := (List.getElem?_eq_some_iff.1 h2).1
   omega
  rw [Array.getElem?_append_left (by simpa using hlt)]
  simpa using h2
 ·cases e <;> simp only [yl] at hl <;> simp only [bodyPost]
  case normal => obtain ⟨hd, env, ha, _, hq⟩ := hl;exact ⟨hd, _, results_none hr _ _ _, ⟨_, rfl⟩, hq⟩
  case ret => obtain ⟨hd, env, ha, _, hq⟩ := hl;exact ⟨hd, _, results_none hr _ _ _, ⟨_, rfl⟩, hq⟩
  case exit => obtain ⟨_, _, _, h, _⟩ := hl;rcases h with h|h <;> cases h
  case goto => obtain ⟨_, _, _, h, _⟩ := hl;rcases h with h|h <;> cases h
end
end Go.CF
namespace Go.Proofs.YtajenkpjcbaadaaGreat
open Go Go.CF
set_option maxRecDepth 20000
theorem sl_rows0 {α : Type} {sz : Nat} {l : List α} {f : α → List AV} {h : Heap} {G : Nat → Prop} {sv : Value} (hs : (AV.sl sz l f).R h G sv) : l.length ≤ 9223372036854775807 ∧ ∃ p cap rows, sv = .slice p l.length cap ∧ Go.CF.Rows h G sz rows l f ∧
  (0 < l.length → ∃ b o, p = some ⟨b, o, none⟩ ∧ G b ∧ b < h.size ∧ Cels h ⟨b, o, none⟩ rows.flatten) := by
 obtain ⟨hm, ⟨rfl, p, cap, rfl⟩|⟨b, o, cap, rows, rfl, h1, h2, hg, hlt, hc, hr⟩⟩ := hs
 ·exact ⟨hm, p, cap, [], rfl, Rows.nil, fun h => by simp at h⟩
 ·exact ⟨hm, _, cap, rows, rfl, hr, fun _ => ⟨b, o, rfl, hg, hlt, hc⟩⟩
theorem cels_row {h : Heap} {b o sz : Nat} {rows : List (List Value)} {i : Nat} {r : List Value} (hc : Cels h ⟨b, o, none⟩ rows.flatten) (hz : ∀ r ∈ rows, r.length = sz) (hi : rows[i]? = some r) : Cels h ⟨b, o + i * sz, none⟩ r := by
 refine ⟨fun j v hv => ?_⟩
 have h1 := hc.get (i * sz + j) v (rows_flat rows i j r v hz hi hv)
 rw [addr_add] at h1 ⊢
 rwa [Nat.add_assoc]
set_option maxHeartbeats 1000000 in
theorem upd_it (l : List (Int × Int × Int)) : ItA Tryz.prog 156 [.ad [.sl 3 l updC] 0] (l.zipIdx.reverse.map fun p => [it (p.2 : Nat), .agg (updC p.1)]) := by
 refine ⟨fun h G vs hr => ?_⟩
 match vs, hr with
 | [p], ⟨hp, _⟩ =>
 obtain ⟨b, o, cs, rfl, hgb, hbl, hc, hrl⟩ := hp
 match cs, hrl, hc with
 | [sv], hrl, hc =>
 obtain ⟨hm, q, cap, rows, rfl, hrows, hcel⟩ := sl_rows0 hrl.t.1
 have hlen := hrows.len
 refine ⟨rows.zipIdx.reverse.map fun p => [.int .i64 (p.2 : Nat), .agg p.1.toArray], by simp [hlen], fun i y x hy hx => ?_, ⟨fun lp J Jx w hC hY hJ => ?_⟩⟩
 ·simp only [List.getElem?_map, Option.map_eq_some_iff] at hy hx
  obtain ⟨⟨r, j⟩, hy, rfl⟩ := hy
  obtain ⟨⟨u, j2⟩, hx, rfl⟩ := hx
  have hil := (List.getElem?_eq_some_iff.1 hy).1
  simp only [List.length_reverse, List.length_zipIdx] at hil
  rw [List.getElem?_reverse (by simpa using hil)] at hy
  rw [List.getElem?_reverse (by simpa [← hlen] using hil)] at hx
  simp only [List.length_zipIdx, List.getElem?_zipIdx, Option.map_eq_some_iff] at hy hx
  obtain ⟨r', hr1, hr2⟩ := hy
  obtain ⟨u', hu1, hu2⟩ := hx
  simp only [Prod.mk.injEq] at hr2 hu2
  obtain ⟨rfl, rfl⟩ := hr2
  obtain ⟨rfl, rfl⟩ := hu2
  rw [← hlen] at hu1
  refine ⟨?_, ⟨_, rfl, hrows.row _ _ _ hr1 hu1⟩, trivial⟩
  show _ = _
  rw [hlen]
 ·refine (YC.calls (vs := [.func (.yield lp) #[] #[], .pointer (some ⟨b, o + 0, none⟩)]) (R := fun w' => Sm w w' ∧ (J (rows.zipIdx.reverse.map fun p => [Value.int .i64 (p.2 : Nat), .agg p.1.toArray]).length w'.heap ∨ ∃ i, i ≤ (rows.zipIdx.reverse.map fun p => [Value.int .i64 (p.2 : Nat), .agg p.1.toArray]).length ∧ Jx i w'.heap)) Tryz.func156 rfl Tryz.ntmps156 Tryz.results156 rfl ?_)
  have hy2 : ∀ i (hi : i < rows.length), (rows.zipIdx.reverse.map fun p => [Value.int .i64 (p.2 : Nat), .agg p.1.toArray])[rows.length - (i + 1)]? = some [.int .i64 (i : Nat), .agg rows[i].toArray] := fun i hi => by
   rw [List.getElem?_map, List.getElem?_reverse (by simp;omega), List.length_zipIdx, List.getElem?_zipIdx, show rows.length - 1 - (rows.length - (i + 1)) = i by omega, List.getElem?_eq_getElem hi]
   simp
  have hyl : (rows.zipIdx.reverse.map fun p => [Value.int .i64 (p.2 : Nat), .agg p.1.toArray]).length = rows.length := by simp
  rw [hyl] 
  generalize (rows.zipIdx.reverse.map fun p => [Value.int .i64 (p.2 : Nat), .agg p.1.toArray]) = ys at *
  have hstep : ∀ (e : Env) (w' : World), FPx G h w'.heap → Cels w'.heap ⟨b, o, none⟩ [.slice q l.length cap] := fun e w' hf => hc.of_block (hf.same b hgb hbl)
  have hrow : ∀ (w' : World), FPx G h w'.heap → ∀ (i : Nat) (hi : i < rows.length), ∃ b2 o2, q = some ⟨b2, o2, none⟩ ∧ Cels w'.heap ⟨b2, o2 + i * 3, none⟩ rows[i] ∧ rows[i].length = 3 := fun w' hf i hi => by
   obtain ⟨b2, o2, e1, e2, e3, e4⟩ := hcel (by omega)
   have h1 : rows[i]? = some rows[i] := List.getElem?_eq_getElem hi
   exact ⟨b2, o2, e1, cels_row (e4.of_block (hf.same b2 e2 e3)) hrows.sz h1, hrows.sz _ (List.getElem_mem _)⟩
  have hl9 : rows.length ≤ 9223372036854775807 := by omega
  have hsz : ti90.size = 3 := rfl
  refine YC.seq (YC.region ?_)
  refine YO.step rfl rfl (by intro c h;cases h) (St.load pg (ti := ti82) rfl rfl rfl ((hstep [] w (hC 0 _ hJ)).get 0 _ rfl) (by simp) rfl ?_)
  refine YO.step rfl rfl (by intro c h;cases h) (St.len pg (ti := ti82) rfl rfl rfl ?_)
  refine YO.step rfl rfl (by intro c h;cases h) (St.sub (j := 1) rfl rfl (by omega) ?_)
  refine YO.step rfl rfl (by intro c h;cases h) (St.assign rfl ?_)
  refine YO.nil ?_
  refine (YC.block (YC.loop (fun m e w' => m ≤ rows.length ∧ Go.CF.look e 0 = some (.func (.yield lp) #[] #[]) ∧ Go.CF.look e 1 = some (.pointer (some ⟨b, o + 0, none⟩)) ∧ Go.CF.look e 3 = some (.int .i64 ((m : Int) - 1)) ∧ Sm w w' ∧ J (rows.length - m) w'.heap) rows.length ?_ ?_))
  ·refine ⟨Nat.le_refl _, rfl, rfl, ?_, Sm.refl w, by rw [Nat.sub_self];exact hJ⟩
   rw [hlen];rfl
  ·rintro m e w' ⟨hm1, k0, k1, k3, hsm, hJ'⟩
   have hf := hC _ _ hJ'
   refine YC.seq (YC.seq (YC.region ?_))
   refine YO.step rfl rfl (by intro c h;cases h) (St.move k3 ?_)
   refine YO.step rfl rfl (by intro c h;cases h) (St.geq (j := 0) rfl rfl ?_)
   refine YO.nil ?_
   refine (YC.cond rfl (fun hb => YC.skip ?_) (fun hb => YC.exit ?_))
   ·have hb : (0 : Int) ≤ (m : Int) - 1 := by simpa using hb
    obtain ⟨i, rfl⟩ : ∃ i, m = i + 1 := ⟨m - 1, by omega⟩
    have k3 : Go.CF.look e 3 = some (.int .i64 (i : Nat)) := by rw [k3];congr 2;omega
    obtain ⟨b2, o2, rfl, hrc, hr3⟩ := hrow w' hf i (by omega)
    refine YC.seq (YC.block (YC.seq (YC.region ?_)))
    refine YO.step rfl rfl (by intro c h;cases h) (St.move k0 ?_)
    refine YO.step rfl rfl (by intro c h;cases h) (St.move k3 ?_)
    refine YO.step rfl rfl (by intro c h;cases h) (St.load pg (ti := ti82) rfl rfl k1 ((hstep [] w' hf).get 0 _ rfl) (by simp) rfl ?_)
    refine YO.step rfl rfl (by intro c h;cases h) (St.move k3 ?_)
    refine YO.step rfl rfl (by intro c h;cases h) (St.indexAddr (i := i) pg (ti := ti82) (te := ti90) rfl rfl rfl rfl rfl (by omega) (by omega) ?_)
    refine YO.step rfl rfl (by intro c h;cases h) (St.loadS pg (ti := ti90) rfl rfl rfl hrc (by simp) (by rw [hr3];rfl) rfl ?_)
    refine YO.yield rfl rfl rfl rfl rfl ?_
    have hyi := hy2 i (by omega)
    obtain ⟨fn, tm, asg, bd, g1, g2⟩ := hY (rows.length - (i + 1)) _ w' hyi hJ' hsm
    refine ⟨fn, tm, asg, bd, g1, g2.mono fun e' w'' ⟨q1, q2⟩ => ?_⟩
    rcases q2 with ⟨rfl, q2⟩|⟨rfl, q2⟩
    ·refine ⟨_, rfl, ?_⟩
     refine YO.step rfl rfl (by intro c h;cases h) (St.not rfl ?_)
     refine YO.nil ?_
     refine YC.cond (b := false) rfl (fun hb => by cases hb) (fun _ => YC.skip ?_)
     refine YC.region ?_
     refine YO.step rfl rfl (by intro c h;cases h) (St.move k3 ?_)
     refine YO.step rfl rfl (by intro c h;cases h) (St.sub (j := 1) rfl rfl (by omega) ?_)
     refine YO.step rfl rfl (by intro c h;cases h) (St.assign rfl ?_)
     refine YO.nil ?_
     refine ⟨i, by omega, by omega, k0, k1, rfl, hsm.trans q1, ?_⟩
     rw [show rows.length - i = rows.length - (i + 1) + 1 by omega];exact q2
    ·refine ⟨_, rfl, ?_⟩
     refine YO.step rfl rfl (by intro c h;cases h) (St.not rfl ?_)
     refine YO.nil ?_
     refine YC.cond (b := true) rfl (fun _ => YC.ret ?_) (fun hb => by cases hb)
     exact ⟨.inr rfl, hsm.trans q1, .inr ⟨_, by omega, q2⟩⟩
   ·have hb : ¬ (0 : Int) ≤ (m : Int) - 1 := by simpa using hb
    obtain rfl : m = 0 := by omega
    exact ⟨.inl rfl, hsm, .inl (by simpa using hJ')⟩
end Go.Proofs.YtajenkpjcbaadaaGreat
namespace Go.Proofs.YtajenkpjcbaadaaGreat
open Go Go.CF
set_option maxRecDepth 20000
theorem upd_seq_p (l : List UpS) : CallP Tryz.prog 124 [.sl 3 l updC] (.fn 156 [.ad [.sl 3 l updC] 0]) := by
 refine CallA.of pg ord124 Tryz.func124 rfl Tryz.ntmps124 Tryz.results124 rfl fun h0 G0 O0 => ?_
 (repeat' (first|(show CA _ _ (Code.region 1 _ _) _ _;apply Stopped.out)|refine Sp.h ?_|refine Lk.r rfl ?_|refine Rf.mk rfl ?_|refine All.mk fun _=>?_|fail));any_goals apply Stopped.mk
 rename_i b
 refine CA.freezeB 1 rfl (by repeat constructor) ?_
 repeat' (first|refine Sp.h ?_|refine Lk.r rfl ?_|refine Rf.mk rfl ?_|refine xN ?_|fail)
 exact Fin.p rfl rfl
def wrC (w : WrS) : List AV := evC w.1 ++ updC w.2
instance {e : EvS} {a b c : Int} : Inv wrC [iv e.rep, iv e.num, iv e.time, ints e.past, iv e.kind, iv e.action, iv e.gk, iv e.gi, iv e.ge, iv e.ga, iv e.to, iv e.place, iv e.serial, it a, it b, it c] (e, (a, b, c)) := ⟨rfl⟩
theorem updF_none {us : List UpS} {c : Int} (h : ∀ (i : Nat) (u : UpS), us.reverse[i]? = some u → u.2.1 ≠ c) : updF us c = none := by
 unfold updF
 refine List.find?_eq_none.2 fun u hu => ?_
 obtain ⟨i, hi⟩ := List.getElem?_of_mem hu
 simpa using h i u hi
theorem updF_some {us : List UpS} {c : Int} {i : Nat} {u : UpS} (hu : us.reverse[i]? = some u) (hc : u.2.1 = c) (h : ∀ (j : Nat) (v : UpS), j < i → us.reverse[j]? = some v → v.2.1 ≠ c) : updF us c = some u := by
 unfold updF
 have hs : us.reverse = us.reverse.take i ++ u :: us.reverse.drop (i + 1) := by
  obtain ⟨hl, e⟩ := List.getElem?_eq_some_iff.1 hu
  rw [← e, List.getElem_cons_drop, List.take_append_drop]
 rw [hs, List.find?_append, List.find?_eq_none.2 fun v hv => ?_]
 ·simp [hc]
 ·obtain ⟨j, hj⟩ := List.getElem?_of_mem hv
  have hji : j < i := by
   have := (List.getElem?_eq_some_iff.1 hj).1
   simp at this;omega
  rw [List.getElem?_take, if_pos hji] at hj
  simpa using h j v hji hj
theorem wr_snoc {m : ModS} {l : List EvS} {n i : Nat} {e : EvS} (he : l[i]? = some e) : wrF m (l.take (i + 1)) n = wrF m (l.take i) n ++ ((updE m e n).map fun u => (e, u)).toList := by
 unfold wrF
 rw [List.take_add_one, he, List.filterMap_append]
 cases h : updE m e n <;> simp [h]
theorem wr_len (m : ModS) (l : List EvS) (n : Nat) : (wrF m l n).length ≤ l.length := List.length_filterMap_le _ _
def ActOK (m : ModS) (l : List EvS) : Prop := ∀ e ∈ l, e.kind = 0 → 0 ≤ e.action ∧ e.action < m.acts.length
set_option maxHeartbeats 4000000 in
theorem writes_p (m : ModS) (l : List EvS) (n : Nat) (hl : l.length ≤ 1000) (hv : ActOK m l) : CallO Tryz.prog 61 [mdl m, evs l, it (n : Nat)] 177 16 (wrF m l n) wrC := by
 refine CallA.of pg ord61 Tryz.func61 rfl Tryz.ntmps61 Tryz.results61 rfl fun h0 G0 O0 => ?_
 (repeat' (first|(show CA _ _ (Code.block 0 _) _ _;apply Stopped.out)|refine Sp.h ?_|refine Lk.r rfl ?_|refine Rf.mk rfl ?_|refine Im.mk fun _=>?_|refine All.mk fun _=>?_|refine xN ?_|fail));any_goals apply Stopped.mk
 rename_i b3 b5 b7 hl9
 refine CA.nilCell (b := b7) (i := 0) (by repeat constructor) rfl 177 16 wrC fun v0 => ?_
 refine Sp.h ?_
 refine CA.loop (fun x : Nat × Value => ⟨[(3, pm b3), (5, pm b5), (7, pm b7), (12, evs l), (13, it (l.length : Nat)), (14, it (x.1 : Nat))],
  [arrR x.2 177 16 (wrF m (l.take x.1) n) wrC, blkR b7 125 [.ow x.2], blkR b5 3 [it (n : Nat)], blkR b3 30 (modC m)]⟩)
  (fun x => x.1 ≤ l.length) (fun x => l.length - x.1) (0, v0) xE (Nat.zero_le _) ?_
 rintro ⟨i, v⟩ hi
 simp only at hi
 by_cases hin : i < l.length
 ·obtain ⟨e, he⟩ := get_of hin
  by_cases hk : e.kind = 0
  ·obtain ⟨ha0, ha1⟩ := hv e (List.mem_of_getElem? he) hk
   obtain ⟨a, ha⟩ := get_of (l := m.acts) (i := e.action.toNat) (by omega)
   obtain ⟨q, hq⟩ : ∃ q : Nat, e.action = q := ⟨e.action.toNat, by omega⟩
   rw [hq, Int.toNat_natCast] at ha
   repeat' (first|refine Sp.h ?_|refine Lk.r rfl ?_|refine Rf.mk rfl ?_|refine xA ?_|refine All.mk fun _=>?_|refine xT ?_|refine xI ?_|(apply Ix.r;(focus assumption);(focus omega))|refine Ch.l ⟨rfl, rfl⟩ ?_|(apply SetAsk.r;focus repeat' constructor)|refine xN ?_|(apply Cl.p (upd_seq_p _);focus repeat' constructor))
   rename_i b9
   refine CA.range (xs := a.eff.updates.zipIdx.reverse.map fun p => [it (p.2 : Nat), .agg (updC p.1)]) rfl rfl (upd_it _) (fun x hx => by
    obtain ⟨p, _, rfl⟩ := List.mem_map.1 hx;rfl) rfl
    (fun j o' => (∀ (r : Nat) (u : UpS), r < j → a.eff.updates.reverse[r]? = some u → u.2.1 ≠ n) ∧ o' = [blkR b9 40 (evC e), arrR v 177 16 (wrF m (l.take i) n) wrC, blkR b7 125 [.ow v], blkR b5 3 [it (n : Nat)], blkR b3 30 (modC m)])
    (fun x o' => x = .exit 2 ∧ ∃ v' u, updF a.eff.updates n = some u ∧ o' = [arrR v' 177 16 (wrF m (l.take i) n ++ [(e, u)]) wrC, blkR b7 125 [.ow v'], blkR b5 3 [it (n : Nat)], blkR b3 30 (modC m)])
    ⟨fun r u hr => by omega, rfl⟩ ?_ ?_ ?_ ?_ ?_
   ·rintro j x o' hx ⟨hno, rfl⟩ h0' G0' O0' h0g
    rw [List.getElem?_map, Option.map_eq_some_iff] at hx
    obtain ⟨⟨⟨u1, u2, u3⟩, k⟩, hp, rfl⟩ := hx
    have hu : a.eff.updates.reverse[j]? = some (u1, u2, u3) := by
     have h1 := congrArg (Option.map Prod.fst) hp
     rw [← List.getElem?_map, List.map_reverse, List.zipIdx_map_fst] at h1
     exact h1
    repeat' (first|refine Sp.h ?_|refine Lk.r rfl ?_|refine Rf.mk rfl ?_|refine All.mk fun _=>?_|refine xT ?_|(apply SetAsk.r;focus repeat' constructor)|refine xN ?_|fail)
    apply PA.brk h0g rfl
    have hwl := wr_len m (l.take i) n
    have hwl2 : (l.take i).length ≤ l.length := List.length_take_le' _ _
    by_cases hc : u2 = (n : Int)
    ·repeat' (first|refine Sp.h ?_|refine Lk.r rfl ?_|refine Rf.mk rfl ?_|refine xA ?_|refine xP ?_|refine All.mk fun _=>?_|refine xU ?_|refine xT ?_|refine Ce.r ?_|refine Ch.l ⟨rfl, rfl⟩ ?_|refine xV ?_|(apply Fk.r;focus repeat' first|infer_instance|constructor)|refine Rf.mk ⟨rfl, rfl⟩ ?_|refine Rf.mk ⟨rfl, rfl, rfl⟩ ?_|(apply Mp.lit;(focus repeat (first|exact MpL.nil|(apply MpL.cons;(focus rfl))|(apply MpL.inv;(focus repeat constructor);(focus infer_instance)))))|fail)
     rename_i v' 
     refine PA.rd [arrR v' 177 16 (wrF m (l.take i) n ++ [(e, (u1, u2, u3))]) wrC, blkR b7 125 [.ow v'], blkR b5 3 [it (n : Nat)], blkR b3 30 (modC m)] (by (repeat first|exact .nil|refine .cons (by repeat constructor) ?_)) ⟨rfl, v', _, updF_some hu hc fun r u hr h9 => hno r u hr h9, rfl⟩
    ·repeat' (first|refine Sp.h ?_|refine Lk.r rfl ?_|refine Rf.mk rfl ?_|refine xB ?_|refine xT ?_|fail)
     refine PA.rd [blkR b9 40 (evC e), arrR v 177 16 (wrF m (l.take i) n) wrC, blkR b7 125 [.ow v], blkR b5 3 [it (n : Nat)], blkR b3 30 (modC m)] (by (repeat first|exact .nil|refine .cons (by repeat constructor) ?_)) ⟨fun r u hr h9 => ?_, rfl⟩
     rcases Nat.lt_succ_iff_lt_or_eq.1 hr with hr|rfl
     ·exact hno r u hr h9
     ·rw [hu] at h9;cases h9;exact hc
   ·rintro o' ⟨hno, rfl⟩
    have hn : updF a.eff.updates n = none := updF_none fun r u hu => hno r u (by
     have := (List.getElem?_eq_some_iff.1 hu).1
     simpa using this) hu
    have hu9 : updE m e n = none := by rw [updE, if_pos hk, usF, hq, Int.toNat_natCast, ha];exact hn
    have hs := wr_snoc (m := m) (n := n) he
    rw [hu9, Option.map_none, Option.toList_none, List.append_nil] at hs
    repeat' (first|refine Sp.h ?_|refine Lk.r rfl ?_|refine Rf.mk rfl ?_|refine xO ?_|fail)
    refine PA.lp (i + 1, v) ⟨by (repeat first|exact trivial|refine ⟨rfl, ?_⟩), ?_⟩ ⟨hin, by simp only;omega⟩
    simp only [hs]
    (repeat first|exact .nil|refine .cons (by repeat constructor) ?_)
   ·rintro o' ⟨h, _⟩;cases h
   ·rintro r o' ⟨h, v', u, hu, rfl⟩
    cases h
    have hu9 : updE m e n = some u := by rw [updE, if_pos hk, usF, hq, Int.toNat_natCast, ha];exact hu
    have hs := wr_snoc (m := m) (n := n) he
    rw [hu9] at hs
    repeat' (first|refine Sp.h ?_|refine Lk.r rfl ?_|refine Rf.mk rfl ?_|refine xO ?_|fail)
    refine PA.lp (i + 1, v') ⟨by (repeat first|exact trivial|refine ⟨rfl, ?_⟩), ?_⟩ ⟨hin, by simp only;omega⟩
    simp only [hs]
    (repeat first|exact .nil|refine .cons (by repeat constructor) ?_)
   ·rintro r o' ⟨h, _⟩;cases h
  ·have hu9 : updE m e n = none := if_neg hk
   have hs := wr_snoc (m := m) (n := n) he
   rw [hu9, Option.map_none, Option.toList_none, List.append_nil] at hs
   repeat' (first|refine Sp.h ?_|refine Lk.r rfl ?_|refine Rf.mk rfl ?_|refine xA ?_|refine xB ?_|refine All.mk fun _=>?_|refine xT ?_|refine xI ?_|refine Ch.l ⟨rfl, rfl⟩ ?_|(apply SetAsk.r;focus repeat' constructor)|refine xN ?_|refine xO ?_|fail)
   refine PA.lp (i + 1, v) ⟨by (repeat first|exact trivial|refine ⟨rfl, ?_⟩), ?_⟩ ⟨hin, by simp only;omega⟩
   simp only [hs]
   (repeat first|exact .nil|refine .cons (by repeat constructor) ?_)
 ·have : i = l.length := by omega
  subst this
  simp only [List.take_length]
  repeat' (first|refine Sp.h ?_|refine Lk.r rfl ?_|refine Rf.mk rfl ?_|refine xB ?_|refine xT ?_|refine xN ?_|fail)
  exact ⟨_, _, .one (.same (.z)), _, rfl, rfl⟩
end Go.Proofs.YtajenkpjcbaadaaGreat
namespace Go.CF
open Go
def rawR {α : Type} (sz : Nat) (L : List (List Value)) (l : List α) (f : α → List AV) : Res :=
 ⟨fun h O G => (∀ b, ¬ O b) ∧ Rows h G sz L l f, fun x ⟨ho, r⟩ => ⟨ho, r.stp (x.mono fun _ => .inr)⟩, fun x ⟨ho, r⟩ => ⟨ho, r.mono x⟩, fun ⟨ho, _⟩ b hb => absurd hb (ho b)⟩
section
variable {Γ : Cx} {k : List KI} {e : EA} {o : List Res}
theorem CA.toRows {α : Type} {y : Code} {v : Value} {T sz : Nat} {l : List α} {f : α → List AV} {rest : List Res} (tk : Take o (arrR v T sz l f) rest)
  (h : ∀ L : List (List Value), L.length = l.length → CA Γ k y e (arrR v T sz L valR :: rawR sz L l f :: rest)) : CA Γ k y e o := by
 refine ⟨fun env hh G Os cn => ?_⟩
 obtain ⟨O, Os', cn2⟩ := cn.take tk
 obtain ⟨⟨ho, rows, hw, hr⟩, hrest⟩ := cn2.hp.own
 have hv : RowsV sz rows := ⟨hr.sz, fun r hm u hu => by
  obtain ⟨j, hj⟩ := List.getElem?_of_mem hm
  obtain ⟨x, hx⟩ : ∃ x, l[j]? = some x := ⟨_, List.getElem?_eq_getElem (by rw [← hr.len];exact (List.getElem?_eq_some_iff.1 hj).1)⟩
  exact (hr.row j r x hj hx).one u hu⟩
 have hp : HpOK Γ.h0 Γ.G0 Γ.O0 (arrR v T sz rows valR :: rawR sz rows l f :: rest) hh G (O :: (fun _ => False) :: Os') := by
  refine ⟨⟨⟨ho, rows, by rw [hr.len];exact hw, hv.rows hh G⟩, ⟨fun _ h => h, hr⟩, hrest⟩, cn2.hp.g, cn2.hp.g0, fun X hX b hb => ?_, ?_, cn2.hp.fp⟩
  ·rcases List.mem_cons.1 hX with rfl|hX
   ·exact cn2.hp.o X (by simp) b hb
   ·rcases List.mem_cons.1 hX with rfl|hX
    ·exact hb.elim
    ·exact cn2.hp.o X (by simp [hX]) b hb
  ·obtain ⟨d1, d2⟩ := List.pairwise_cons.1 cn2.hp.d
   refine List.pairwise_cons.2 ⟨fun B hB b hb hb2 => ?_, List.pairwise_cons.2 ⟨fun B hB b hb _ => hb, d2⟩⟩
   rcases List.mem_cons.1 hB with rfl|hB
   ·exact hb2
   ·exact d1 B hB b hb hb2
 exact (h rows hr.len).h env hh G _ ⟨hp, cn2.env, cn2.nf⟩
theorem CA.ofRows {α : Type} {y : Code} {v : Value} {T sz : Nat} {L L' : List (List Value)} {l : List α} {f : α → List AV} {rest rest2 : List Res} (tk : Take o (arrR v T sz L' valR) rest) (tk2 : Take rest (rawR sz L l f) rest2)
  (Z : List (List Value × α)) (hZ : ∀ z ∈ Z, ∃ i : Nat, L[i]? = some z.1 ∧ l[i]? = some z.2) (h1 : Z.map (·.1) = L') (h : CA Γ k y e (arrR v T sz (Z.map (·.2)) f :: rest2)) : CA Γ k y e o := by
 refine ⟨fun env hh G Os cn => ?_⟩
 obtain ⟨O, Os', cn2⟩ := cn.take tk
 obtain ⟨⟨ho, rows, hw, hr⟩, hrest⟩ := cn2.hp.own
 obtain ⟨X, Os2, r1, r2, r3⟩ := tk2.own hrest
 have e9 := rows_val hr
 subst e9
 have hlen : rows.length = Z.length := by rw [← h1, List.length_map]
 have hrow : Rows hh G sz rows (Z.map (·.2)) f := by
  refine ⟨by rw [hlen, List.length_map], fun i r x e1 e2 => ?_, hr.sz⟩
  rw [← h1, List.getElem?_map] at e1
  rw [List.getElem?_map] at e2
  cases hz : Z[i]? with
  | none => rw [hz] at e1;cases e1
  | some z =>
   rw [hz] at e1 e2
   cases e1;cases e2
   obtain ⟨q, q1, q2⟩ := hZ z (List.mem_of_getElem? hz)
   exact r1.2.row q _ _ q1 q2
 have c4 : HpOK Γ.h0 Γ.G0 Γ.O0 (arrR v T sz rows valR :: rawR sz L l f :: rest2) hh G (O :: X :: Os2) := cn2.hp.perm ⟨cn2.hp.own.1, r1, r2⟩ (List.Perm.cons _ r3)
 have c5 : HpOK Γ.h0 Γ.G0 Γ.O0 (rawR sz L l f :: arrR v T sz rows valR :: rest2) hh G (X :: O :: Os2) := c4.perm ⟨r1, cn2.hp.own.1, r2⟩ (List.Perm.swap _ _ _)
 have c6 := c5.drop
 exact h.h env hh G (O :: Os2) ⟨c6.perm ⟨⟨ho, rows, by rw [List.length_map, ← hlen];exact hw, hrow⟩, r2⟩ (List.Perm.refl _), cn2.env, cn2.nf⟩
end
end Go.CF
namespace Go.Proofs.YtajenkpjcbaadaaGreat
open Go Go.CF
set_option maxRecDepth 20000
theorem Lend.all {o : List Res} : ∀ l : List AV, Lend o l l
 | [] => .nil
 | _ :: l => .keep (Lend.all l)
abbrev wrs (l : List WrS) : AV := .sl 16 l wrC
abbrev evW' (x : WrS) : AV := .agg (wrC x)
abbrev wrR (v : Value) (l : List WrS) : Res := arrR v 177 16 l wrC
theorem indexW_p {g : FuncId} {caps : List AV} {p : WrS → Bool} (hg : ∀ e, CallP Tryz.prog g (evW' e :: caps) (.val (.bool (p e)))) (he : en g = true) (l : List WrS) :
  CallP Tryz.prog 151 [wrs l, .fn g caps] (.val (.int .i64 (idxI p l))) := by
 refine CallA.of pg ord151 Tryz.func151 rfl Tryz.ntmps151 Tryz.results151 rfl fun h0 G0 O0 => ?_
 repeat' (first|refine Sp.h ?_|refine Lk.r rfl ?_|refine Rf.mk rfl ?_|refine Im.mk fun _=>?_|fail)
 rename_i hll
 refine CA.loop (fun i : Nat => ⟨[(0, wrs l), (1, .fn g caps), (7, .val (.int .i64 l.length)), (8, .val (.int .i64 i))], []⟩)
  (fun i => i ≤ l.length ∧ ∀ j y, j < i → l[j]? = some y → p y = false) (fun i => l.length - i) 0 xE ⟨Nat.zero_le _, fun j y h => by omega⟩ ?_
 rintro i ⟨hi, hj⟩
 by_cases hin : i < l.length
 ·obtain ⟨e, hx⟩ := get_of hin
  repeat' (first|refine Sp.h ?_|refine Lk.r rfl ?_|refine Rf.mk rfl ?_|refine xA ?_|(refine Bd.mk ?_ ?_ <;> intro _)|refine xI ?_|refine Ch.l ⟨rfl, rfl⟩ ?_|refine xN ?_|(apply Rf.mk;(focus assumption))|refine xO ?_|(apply Cl.p (hg e);(focus repeat' (first|apply Lend.keep|fail))))
  ·exact Lend.all _
  ·rename_i hp
   exact Fin.p rfl (by rw [idxI, idxN_of hx hp hj, if_pos hin])
  ·rename_i hp
   refine PA.lp (i + 1) xE ⟨⟨hin, fun j y h1 h2 => ?_⟩, by omega⟩
   by_cases hij : j = i
   ·subst hij;rw [hx] at h2;cases h2;simpa using hp
   ·exact hj j y (by omega) h2
 ·repeat' (first|refine Sp.h ?_|refine Lk.r rfl ?_|refine Rf.mk rfl ?_|refine xB ?_|refine xN ?_|fail)
  exact Fin.p rfl (by rw [idxI, idxN_none (fun x hx => by obtain ⟨j, hx⟩ := List.getElem?_of_mem hx;exact hj j x (by have := (List.getElem?_eq_some_iff.1 hx).1;omega) hx), if_neg (by omega)])
theorem containsW_p {g : FuncId} {caps : List AV} {p : WrS → Bool} (hg : ∀ e, CallP Tryz.prog g (evW' e :: caps) (.val (.bool (p e)))) (he : en g = true) (l : List WrS) :
  CallP Tryz.prog 113 [wrs l, .fn g caps] (.val (.bool (decide (idxN p l < l.length)))) := by
 refine CallA.of pg ord113 Tryz.func113 rfl Tryz.ntmps113 Tryz.results113 rfl fun h0 G0 O0 => ?_
 repeat' (first|refine Sp.h ?_|refine Lk.r rfl ?_|refine Rf.mk rfl ?_|refine xN ?_|(apply Cl.p (indexW_p hg he l);focus repeat' constructor))
 refine Fin.p rfl (vb (decide_eq_decide.2 ?_))
 unfold idxI
 split <;> omega
set_option maxHeartbeats 2000000 in
theorem deleteW_a {g : FuncId} {caps : List AV} {p : WrS → Bool} (hg : ∀ x, CallP Tryz.prog g (evW' x :: caps) (bl (p x))) (he : en g = true) (w : Value) (l : List WrS) (hl : l.length ≤ 1000000) :
  CallA Tryz.prog 108 [.ow w, .fn g caps] [wrR w l] fun q own => ∃ w', q = .ow w' ∧ own = [wrR w' (l.filter fun x => !p x)] := by
 have hix := indexW_p hg he l
 refine CallA.of pg ord108 Tryz.func108 rfl Tryz.ntmps108 Tryz.results108 rfl fun h0 G0 O0 => ?_
 repeat' (first|refine Sp.h ?_|refine Lk.r rfl ?_|refine Rf.mk rfl ?_|fail)
 (apply Cl.lend (hix);(focus repeat' (first|exact Lend.nil|apply Lend.keep|(apply Lend.lend;(focus repeat constructor);(focus first|omega|(simp;omega)))|fail)))
 by_cases hn : idxN p l < l.length
 ·have hI : idxI p l = (idxN p l : Nat) := if_pos hn
  rw [hI]
  repeat' (first|refine Sp.h ?_|refine Lk.r rfl ?_|refine Rf.mk rfl ?_|refine xB ?_|refine xO ?_|fail)
  refine CA.loop (fun x : Nat × Nat × List WrS => ⟨[(0, .ow w), (1, .fn g caps), (5, it x.1), (6, it x.2.1)], [wrR w x.2.2]⟩)
   (fun x => x.1 < x.2.1 ∧ x.2.1 ≤ l.length ∧ x.2.2.length = l.length ∧ x.2.2.take x.1 = (l.take x.2.1).filter (fun x => !p x) ∧ x.2.2.drop x.2.1 = l.drop x.2.1) (fun x => l.length - x.2.1) (idxN p l, idxN p l + 1, l) xE ⟨Nat.lt_succ_self _, hn, rfl, (filt_idx hn).symm, rfl⟩ ?_
  rintro ⟨i, j, cur⟩ ⟨h1, h2, h3, h4, h5⟩
  simp only at h1 h2 h3 h4 h5
  simp only
  by_cases hj : j < l.length
  ·obtain ⟨x, hx⟩ := get_of hj
   have hcx : cur[j]? = some x := by
    have := congrArg (fun z => z[0]?) h5
    simpa [List.getElem?_drop, hx] using this
   obtain ⟨y, hy⟩ := get_of (l := cur) (i := i) (by omega)
   have h6 : cur.drop (j + 1) = l.drop (j + 1) := by rw [← List.drop_drop, h5, List.drop_drop]
   have h7 : l.take (j + 1) = l.take j ++ [x] := by rw [List.take_add_one, hx];rfl
   repeat' (first|refine Sp.h ?_|refine Lk.r rfl ?_|refine Rf.mk rfl ?_|refine xA ?_|(refine Bd.mk ?_ ?_ <;> intro _)|refine All.mk fun _=>?_|refine xU ?_|refine xT ?_|refine xI ?_|refine xJ ?_|refine Ch.l ⟨rfl, rfl⟩ ?_|(apply SetAsk.r;focus repeat' constructor)|refine xN ?_|refine Up.r rfl ?_|(apply Rf.mk;(focus assumption))|refine xO ?_|(apply Cl.p (hg x);(focus repeat' (first|apply Lend.keep|fail))))
   ·exact Lend.all _
   ·rename_i hp
    exact PA.lp (i, j + 1, cur) xE ⟨⟨by simp only;omega, hj, h3, by simp only;rw [h7, List.filter_append, h4];simp [hp], h6⟩, by simp only;omega⟩
   ·rename_i hp
    have hp : p x = false := by simpa using hp
    have h8 : (cur.set i x).take (i + 1) = cur.take i ++ [x] := by
     rw [List.take_add_one, List.getElem?_set, if_pos rfl, if_pos (by omega), List.take_set_of_le (Nat.le_refl _)];rfl
    exact PA.lp (i + 1, j + 1, cur.set i x) xE ⟨⟨by simp only;omega, hj, by simp only;rw [List.length_set];exact h3, by simp only;rw [h7, List.filter_append, h8, h4];simp [hp], by simp only;rw [List.drop_set_of_lt (by omega)];exact h6⟩, by simp only;omega⟩
  ·have hje : j = l.length := by omega
   subst hje
   rw [List.take_length] at h4
   (repeat' (first|(show CA _ _ (Code.region 11 _ _) _ _;apply Stopped.out)|refine Sp.h ?_|refine Lk.r rfl ?_|refine Rf.mk rfl ?_|refine xB ?_|refine xU ?_|fail));any_goals apply Stopped.mk
   apply CA.toRows
   focus (repeat constructor)
   intro L hL
   apply CA.toX 0
   focus rfl
   focus (repeat constructor)
   intro hcap
   rw [h3] at hL
   (repeat' (first|(show CA _ _ Code.ret _ _;apply Stopped.out)|refine Sp.h ?_|refine Lk.r rfl ?_|refine Rf.mk rfl ?_|refine xP ?_|refine Rf.mk ⟨rfl, rfl⟩ ?_|refine Rf.mk ⟨rfl, rfl, rfl⟩ ?_|(apply Jx.r;(focus exact rfl);(focus first|omega|(simp;done)|(simp;omega)))|(apply TkX.r;(focus repeat constructor))|(apply ExX.short;(focus rfl);(focus first|omega|(simp <;> omega));(focus first|omega|(simp <;> omega)))|fail));any_goals apply Stopped.mk
   apply CA.ofRows (Z := (L.zip cur).take i)
   focus (repeat constructor)
   focus (repeat constructor)
   focus (intro z hz;obtain ⟨q, hq⟩ := List.getElem?_of_mem (List.mem_of_mem_take hz);exact ⟨q, (List.getElem?_zip_eq_some (z := z)).1 hq⟩)
   focus (rw [List.map_take, List.map_fst_zip (by omega)];simp [List.take_take])
   rw [List.map_take, List.map_snd_zip (by omega), h4]
   repeat' (first|refine Sp.h ?_|refine Lk.r rfl ?_|refine xN ?_|fail)
   exact ⟨_, _, .one (.same (.z)), _, rfl, rfl⟩
 ·have hI : idxI p l = -1 := if_neg hn
  have hall : l.filter (fun x => !p x) = l := List.filter_eq_self.2 fun x hx => by
   have h9 : ¬ ∃ x ∈ l, p x = true := fun h => hn (idxN_lt.2 h)
   cases hpx : p x
   ·rfl
   ·exact absurd ⟨x, hx, hpx⟩ h9
  rw [hI, hall]
  repeat' (first|refine Sp.h ?_|refine Lk.r rfl ?_|refine Rf.mk rfl ?_|refine xA ?_|refine xN ?_|fail)
  exact ⟨_, _, .one (.same (.z)), _, rfl, rfl⟩

theorem cloneW_o (l : List WrS) (hl : l.length ≤ 1000000000) : CallO Tryz.prog 109 [wrs l] 177 16 l wrC := by
 refine CallA.of pg ord109 Tryz.func109 rfl Tryz.ntmps109 Tryz.results109 rfl fun h0 G0 O0 => ?_
 repeat' (first|refine Sp.h ?_|refine Lk.r rfl ?_|refine Rf.mk rfl ?_|(refine Bd.mk ?_ ?_ <;> intro _)|refine xP ?_|refine Im.mk fun _=>?_|refine All.mk fun _=>?_|refine xU ?_|refine Ce.l rfl ?_|(apply Fk.r;focus repeat' first|infer_instance|constructor)|refine xN ?_|refine Rf.mk ⟨rfl, rfl⟩ ?_|refine Rf.mk ⟨rfl, rfl, rfl⟩ ?_|refine Mp.same ?_|fail)
 ·rename_i b hb hbt
  have hl0 : l = [] := Decidable.byContradiction fun h => by rw [hb h] at hbt;cases hbt
  subst hl0
  exact ⟨_, _, .one (.nils (.z)), _, rfl, rfl⟩
 ·repeat' (first|fail)
  exact ⟨_, _, .one (.same (.z)), _, rfl, rfl⟩
end Go.Proofs.YtajenkpjcbaadaaGreat
namespace Go.Proofs.YtajenkpjcbaadaaGreat
open Go Go.CF
set_option maxRecDepth 20000
abbrev spA (s : SpS) : AV := .agg (spanC s)
theorem indexS_p {g : FuncId} {caps : List AV} {p : SpS → Bool} (hg : ∀ e, CallP Tryz.prog g (spA e :: caps) (.val (.bool (p e)))) (he : en g = true) (l : List SpS) :
  CallP Tryz.prog 150 [sps l, .fn g caps] (.val (.int .i64 (idxI p l))) := by
 refine CallA.of pg ord150 Tryz.func150 rfl Tryz.ntmps150 Tryz.results150 rfl fun h0 G0 O0 => ?_
 repeat' (first|refine Sp.h ?_|refine Lk.r rfl ?_|refine Rf.mk rfl ?_|refine Im.mk fun _=>?_|fail)
 rename_i hll
 refine CA.loop (fun i : Nat => ⟨[(0, sps l), (1, .fn g caps), (7, .val (.int .i64 l.length)), (8, .val (.int .i64 i))], []⟩)
  (fun i => i ≤ l.length ∧ ∀ j y, j < i → l[j]? = some y → p y = false) (fun i => l.length - i) 0 xE ⟨Nat.zero_le _, fun j y h => by omega⟩ ?_
 rintro i ⟨hi, hj⟩
 by_cases hin : i < l.length
 ·obtain ⟨e, hx⟩ := get_of hin
  repeat' (first|refine Sp.h ?_|refine Lk.r rfl ?_|refine Rf.mk rfl ?_|refine xA ?_|(refine Bd.mk ?_ ?_ <;> intro _)|refine xI ?_|refine Ch.l ⟨rfl, rfl⟩ ?_|refine xN ?_|(apply Rf.mk;(focus assumption))|refine xO ?_|(apply Cl.p (hg e);(focus repeat' (first|apply Lend.keep|fail))))
  ·exact Lend.all _
  ·rename_i hp
   exact Fin.p rfl (by rw [idxI, idxN_of hx hp hj, if_pos hin])
  ·rename_i hp
   refine PA.lp (i + 1) xE ⟨⟨hin, fun j y h1 h2 => ?_⟩, by omega⟩
   by_cases hij : j = i
   ·subst hij;rw [hx] at h2;cases h2;simpa using hp
   ·exact hj j y (by omega) h2
 ·repeat' (first|refine Sp.h ?_|refine Lk.r rfl ?_|refine Rf.mk rfl ?_|refine xB ?_|refine xN ?_|fail)
  exact Fin.p rfl (by rw [idxI, idxN_none (fun x hx => by obtain ⟨j, hx⟩ := List.getElem?_of_mem hx;exact hj j x (by have := (List.getElem?_eq_some_iff.1 hx).1;omega) hx), if_neg (by omega)])
theorem containsS_p {g : FuncId} {caps : List AV} {p : SpS → Bool} (hg : ∀ e, CallP Tryz.prog g (spA e :: caps) (.val (.bool (p e)))) (he : en g = true) (l : List SpS) :
  CallP Tryz.prog 100 [sps l, .fn g caps] (.val (.bool (decide (∃ s ∈ l, p s = true)))) := by
 refine CallA.of pg ord100 Tryz.func100 rfl Tryz.ntmps100 Tryz.results100 rfl fun h0 G0 O0 => ?_
 repeat' (first|refine Sp.h ?_|refine Lk.r rfl ?_|refine Rf.mk rfl ?_|refine xN ?_|(apply Cl.p (indexS_p hg he l);focus repeat' constructor))
 refine Fin.p rfl (vb (decide_eq_decide.2 ?_))
 rw [← idxN_lt]
 unfold idxI
 split <;> omega
def okSp (N : Nat) (s : SpS) : Prop := 0 ≤ s.1 ∧ s.1 < (N : Int) ∧ 1 ≤ s.2.1 ∧ s.2.1 ≤ s.2.2 ∧ s.2.2 ≤ 1024
noncomputable instance (N : Nat) (s : SpS) : Decidable (okSp N s) := Classical.propDecidable _
def inS1 (e : EvS) (s : SpS) : Prop := s.1 = e.rep ∧ s.2.1 ≤ e.num ∧ e.num ≤ s.2.2
noncomputable instance (e : EvS) (s : SpS) : Decidable (inS1 e s) := Classical.propDecidable _
noncomputable def inSp (l : List SpS) (e : EvS) : Bool := decide (∃ s ∈ l, inS1 e s)
noncomputable def serveF (N : Nat) (evl : List EvS) (most : Int) (l : List SpS) : Int × List EvS :=
 @ite _ ((1 ≤ most ∧ most ≤ 1024) ∧ ∀ s ∈ l, okSp N s) (Classical.propDecidable _) (0, (evl.filter (inSp l)).take most.toNat) (1, [])
theorem fewA_p (n : Int) : CallP Tryz.prog 51 [it n] (bl (decide (1 ≤ n ∧ n ≤ 1024))) := by
 refine CallA.of pg ord51 Tryz.func51 rfl Tryz.ntmps51 Tryz.results51 rfl fun h0 G0 O0 => ?_
 repeat' (first|refine Sp.h ?_|refine Lk.r rfl ?_|refine Rf.mk rfl ?_|refine xA ?_|refine xB ?_|(refine Bd.mk ?_ ?_ <;> intro _)|refine xN ?_|fail)
 all_goals refine Fin.p rfl (vb ?_)
 all_goals first
  | exact decide_eq_decide.2 (by omega)
  | exact (decide_eq_false (by omega)).symm
theorem serve1_p (N : Nat) (s : SpS) : CallP Tryz.prog 101 [spA s, .ad [it N] 0] (bl (decide (¬ okSp N s))) := by
 obtain ⟨r, f, t⟩ := s
 refine CallA.of pg ord101 Tryz.func101 rfl Tryz.ntmps101 Tryz.results101 rfl fun h0 G0 O0 => ?_
 repeat' (first|refine Sp.h ?_|refine Lk.r rfl ?_|refine Rf.mk rfl ?_|refine xA ?_|refine xB ?_|(refine Bd.mk ?_ ?_ <;> intro _)|refine All.mk fun _=>?_|refine xT ?_|refine xN ?_|fail)
 all_goals refine Fin.p rfl (vb ?_)
 all_goals first
  | exact decide_eq_decide.2 ⟨fun h => by unfold okSp;(try simp only at *);omega, fun h => by unfold okSp at h;(try simp only at *);omega⟩
  | exact (decide_eq_false fun h => by unfold okSp at h;(try simp only at *);omega).symm
  | exact (decide_eq_true (by unfold okSp;(try simp only at *);omega)).symm
theorem serve21_p (e : EvS) (s : SpS) : CallP Tryz.prog 103 [spA s, .ad (evC e) 0] (bl (decide (inS1 e s))) := by
 obtain ⟨r, f, t⟩ := s
 refine CallA.of pg ord103 Tryz.func103 rfl Tryz.ntmps103 Tryz.results103 rfl fun h0 G0 O0 => ?_
 repeat' (first|refine Sp.h ?_|refine Lk.r rfl ?_|refine Rf.mk rfl ?_|refine xA ?_|refine xB ?_|(refine Bd.mk ?_ ?_ <;> intro _)|refine All.mk fun _=>?_|refine xT ?_|refine xN ?_|fail)
 all_goals refine Fin.p rfl (vb ?_)
 all_goals first
  | exact decide_eq_decide.2 ⟨fun h => by unfold inS1;(try simp only at *);omega, fun h => by unfold inS1 at h;(try simp only at *);omega⟩
  | exact (decide_eq_false fun h => by unfold inS1 at h;(try simp only at *);omega).symm
theorem serve2_p (e : EvS) (l : List SpS) : CallP Tryz.prog 102 [evA' e, .ad [sps l] 0] (bl (inSp l e)) := by
 have h1 : ∀ s, CallP Tryz.prog 103 (spA s :: [.ad (evC e) 0]) (bl (decide (inS1 e s))) := serve21_p e
 have h2 := containsS_p h1 rfl l
 refine CallA.of pg ord102 Tryz.func102 rfl Tryz.ntmps102 Tryz.results102 rfl fun h0 G0 O0 => ?_
 (repeat' (first|(show CA _ _ (Code.region 1 _ _) _ _;apply Stopped.out)|refine Sp.h ?_|refine Lk.r rfl ?_|refine Rf.mk rfl ?_|refine All.mk fun _=>?_|fail));any_goals apply Stopped.mk
 rename_i b2
 apply CA.freezeB 2
 focus rfl
 focus (repeat constructor)
 repeat' (first|refine Sp.h ?_|refine Lk.r rfl ?_|refine Rf.mk rfl ?_|refine xN ?_|(apply Cl.p (h2);focus repeat' constructor))
 refine Fin.p rfl (vb ?_)
 simp only [inSp, decide_eq_true_eq]
theorem serve_bad (N : Nat) (evl : List EvS) (most : Int) (l : List SpS) (h : ¬ ((1 ≤ most ∧ most ≤ 1024) ∧ ∀ s ∈ l, okSp N s)) : serveF N evl most l = (1, []) := if_neg h
theorem serve_ok (N : Nat) (evl : List EvS) (most : Int) (l : List SpS) (h : (1 ≤ most ∧ most ≤ 1024) ∧ ∀ s ∈ l, okSp N s) : serveF N evl most l = (0, (evl.filter (inSp l)).take most.toNat) := if_pos h
theorem take_step {p : EvS → Bool} {l : List EvS} {i k : Nat} {e : EvS} (he : l[i]? = some e) : ((l.take (i + 1)).filter p).take k = if p e = true ∧ (((l.take i).filter p).take k).length < k then ((l.take i).filter p).take k ++ [e] else ((l.take i).filter p).take k := by
 rw [List.take_add_one, he, Option.toList_some, List.filter_append]
 by_cases hp : p e = true
 ·rw [show [e].filter p = [e] by simp [hp], List.take_append]
  simp only [hp, true_and, List.length_take]
  by_cases hk : ((l.take i).filter p).length < k
  ·rw [if_pos (by omega), List.take_of_length_le (l := [e]) (by simp;omega)]
  ·rw [if_neg (by omega), show k - ((l.take i).filter p).length = 0 by omega];simp
 ·rw [if_neg (fun h => hp h.1), show [e].filter p = [] by simp [hp], List.append_nil]
set_option maxHeartbeats 8000000 in
theorem serve_a (pb sp bb mb : Nat) (m : ModS) (v vc : Value) (N B : Nat) (p : PrS) (most : Int) (l : List SpS) (h : PrOK m N B p) (hB : B ≤ 90000) (hN : N ≤ 5) (hev : ∀ e ∈ p.s.evs, e.past.length ≤ 1000000) :
  CallA Tryz.prog 54 [pm pb, it most, sps l] (prR pb sp bb mb m v vc p) fun r own => r = .tup [evs (serveF N p.s.evs most l).2, it (serveF N p.s.evs most l).1] ∧ own = prR pb sp bb mb m v vc p := by
 have hsz := h.sz
 have hn := h.n
 subst hn
 obtain ⟨c, hc⟩ : ∃ c, c = p.s.now.clock := ⟨_, rfl⟩
 have hck := sclock_p sp m p.s.base v p.s.now (by omega)
 have hfw := fewA_p most
 have hc1 := containsS_p (caps := [.ad [it (p.s.now.clock.length : Nat)] 0]) (serve1_p p.s.now.clock.length) rfl l
 by_cases hok : (1 ≤ most ∧ most ≤ 1024) ∧ ∀ s ∈ l, okSp p.s.now.clock.length s
 rotate_left
 ·rw [serve_bad _ _ most l hok]
  refine CallA.fxr (K := fun r own => r = .tup [nl0, it 1] ∧ own = prR pb sp bb mb m v vc p) ?_ (by rintro _ _ ⟨rfl, rfl⟩;exact ⟨_, _, .tup (.kn (.k .nil)) .nil, rfl, rfl⟩)
  by_cases hmo : 1 ≤ most ∧ most ≤ 1024
  ·rw [decide_eq_true hmo] at hfw
   rw [decide_eq_true (by
    refine Classical.byContradiction fun h9 => hok ⟨hmo, fun s hs => Classical.byContradiction fun h8 => h9 ⟨s, hs, decide_eq_true h8⟩⟩)] at hc1
   refine CallA.of pg ord54 Tryz.func54 rfl Tryz.ntmps54 Tryz.results54 rfl fun h0 G0 O0 => ?_
   repeat' (first|refine Sp.h ?_|refine Lk.r rfl ?_|refine Rf.mk rfl ?_|refine All.mk fun _=>?_|refine xT ?_|fail)
   refine xW (hck) ?_
   rintro _ _ ⟨rfl, rfl⟩
   (repeat' (first|(show CA _ _ (Code.region 2 _ _) _ _;apply Stopped.out)|refine Sp.h ?_|refine Lk.r rfl ?_|refine Rf.mk rfl ?_|refine Im.mk fun _=>?_|refine All.mk fun _=>?_|refine xT ?_|refine xV ?_|refine xN ?_|fail));any_goals apply Stopped.mk
   apply CA.freezeB 5
   focus rfl
   focus (repeat constructor)
   apply CA.freezeB 8
   focus rfl
   focus (repeat constructor)
   repeat' (first|refine Sp.h ?_|refine Lk.r rfl ?_|refine Rf.mk rfl ?_|refine xA ?_|refine xN ?_|(apply Cl.p (hfw);focus (repeat' constructor);done)|(apply Cl.p (hc1);focus (repeat' constructor);done))
   exact ⟨_, prR pb sp bb mb m v vc p, .tup (.same (.same (.z))), rfl, rfl⟩
  ·rw [decide_eq_false hmo] at hfw
   refine CallA.of pg ord54 Tryz.func54 rfl Tryz.ntmps54 Tryz.results54 rfl fun h0 G0 O0 => ?_
   repeat' (first|refine Sp.h ?_|refine Lk.r rfl ?_|refine Rf.mk rfl ?_|refine All.mk fun _=>?_|refine xT ?_|fail)
   refine xW (hck) ?_
   rintro _ _ ⟨rfl, rfl⟩
   (repeat' (first|(show CA _ _ (Code.region 2 _ _) _ _;apply Stopped.out)|refine Sp.h ?_|refine Lk.r rfl ?_|refine Rf.mk rfl ?_|refine Im.mk fun _=>?_|refine All.mk fun _=>?_|refine xT ?_|refine xV ?_|refine xN ?_|fail));any_goals apply Stopped.mk
   apply CA.freezeB 5
   focus rfl
   focus (repeat constructor)
   apply CA.freezeB 8
   focus rfl
   focus (repeat constructor)
   repeat' (first|refine Sp.h ?_|refine Lk.r rfl ?_|refine Rf.mk rfl ?_|refine xB ?_|refine xN ?_|(apply Cl.p (hfw);focus (repeat' constructor);done)|(apply Cl.p (hc1);focus (repeat' constructor);done))
   exact ⟨_, prR pb sp bb mb m v vc p, .tup (.same (.same (.z))), rfl, rfl⟩
 rw [serve_ok _ _ most l hok]
 obtain ⟨hmo, hall⟩ := hok
 rw [decide_eq_true hmo] at hfw
 rw [decide_eq_false (by rintro ⟨s, hs, h9⟩;exact of_decide_eq_true h9 (hall s hs))] at hc1
 obtain ⟨k, rfl⟩ : ∃ k : Nat, most = k := ⟨most.toNat, by omega⟩
 rw [Int.toNat_natCast]
 have hse := sevents_p sp m p.s.base v p.s.now p.s.evs (by omega) hev
 have hEl : p.s.evs.length ≤ 90000 := by omega
 have htl : ∀ i, (((p.s.evs.take i).filter (inSp l)).take k).length ≤ 1024 := fun i => by rw [List.length_take];omega
 have hw : ∀ e, CallP Tryz.prog 102 [evA' e, .ad [sps l] 0] (bl (inSp l e)) := fun e => serve2_p e l
 refine CallA.fxr (K := fun r own => ∃ u, r = .tup [.ow u, it 0] ∧ own = arrR u 40 13 ((p.s.evs.filter (inSp l)).take k) evC :: prR pb sp bb mb m v vc p) ?_ (by rintro _ _ ⟨u, rfl, rfl⟩;exact ⟨_, _, .tup (.s1 .here (by rw [List.length_take];omega) (.k .nil)) .nil, rfl, rfl⟩)
 refine CallA.of pg ord54 Tryz.func54 rfl Tryz.ntmps54 Tryz.results54 rfl fun h0 G0 O0 => ?_
 repeat' (first|refine Sp.h ?_|refine Lk.r rfl ?_|refine Rf.mk rfl ?_|refine All.mk fun _=>?_|refine xT ?_|fail)
 refine xW (hck) ?_
 rintro _ _ ⟨rfl, rfl⟩
 (repeat' (first|(show CA _ _ (Code.region 2 _ _) _ _;apply Stopped.out)|refine Sp.h ?_|refine Lk.r rfl ?_|refine Rf.mk rfl ?_|refine Im.mk fun _=>?_|refine All.mk fun _=>?_|refine xT ?_|refine xV ?_|refine xN ?_|fail));any_goals apply Stopped.mk
 apply CA.freezeB 5
 focus rfl
 focus (repeat constructor)
 apply CA.freezeB 8
 focus rfl
 focus (repeat constructor)
 repeat' (first|refine Sp.h ?_|refine Lk.r rfl ?_|refine Rf.mk rfl ?_|refine xA ?_|refine xT ?_|(apply Cl.p (hfw);focus (repeat' constructor);done)|(apply Cl.p (hc1);focus (repeat' constructor);done))
 refine xW (hse) ?_
 rintro _ _ ⟨rfl, rfl⟩
 repeat' (first|refine Sp.h ?_|refine Lk.r rfl ?_|refine Im.mk fun _=>?_|fail)
 refine CA.nilOwn 10 40 13 evC rfl fun u0 => ?_
 refine CA.loop (fun x : Nat × Value => ⟨[(1, it k), (9, .fn 102 [.ad [sps l] 0]), (10, .ow x.2), (32, evs p.s.evs), (33, it (p.s.evs.length : Nat)), (34, it x.1)], arrR x.2 40 13 (((p.s.evs.take x.1).filter (inSp l)).take k) evC :: prR pb sp bb mb m v vc p⟩)
  (fun x => x.1 ≤ p.s.evs.length) (fun x => p.s.evs.length - x.1) (0, u0) ⟨by (repeat first|exact trivial|refine ⟨rfl, ?_⟩), by simp only [List.take_zero, List.filter_nil, List.take_nil];(repeat first|exact .nil|refine .cons (by repeat constructor) ?_)⟩ (Nat.zero_le _) ?_
 rintro ⟨i, u⟩ hi
 simp only at hi
 simp only
 by_cases hin : i < p.s.evs.length
 ·obtain ⟨e, he⟩ := get_of hin
  have hts := take_step (p := inSp l) (k := k) he
  have hwe := hw e
  have hti := htl i
  cases hp : inSp l e with
  | false =>
   have h9 : ((p.s.evs.take (i + 1)).filter (inSp l)).take k = ((p.s.evs.take i).filter (inSp l)).take k := by rw [hts, if_neg (fun h9 => by rw [hp] at h9;cases h9.1)]
   rw [hp] at hwe
   repeat' (first|refine Sp.h ?_|refine Lk.r rfl ?_|refine Rf.mk rfl ?_|refine xA ?_|refine All.mk fun _=>?_|refine xT ?_|refine xI ?_|refine Ch.l ⟨rfl, rfl⟩ ?_|(apply SetAsk.r;focus repeat' constructor)|refine xN ?_|refine xO ?_|(apply Cl.p (hwe);focus repeat' constructor))
   all_goals exact PA.lp (i + 1, _) ⟨by (repeat first|exact trivial|refine ⟨rfl, ?_⟩), by simp only [h9];(repeat first|exact .nil|refine .cons (by repeat constructor) ?_)⟩ ⟨hin, by simp only;omega⟩
  | true =>
   rw [hp] at hwe
   by_cases hk : (((p.s.evs.take i).filter (inSp l)).take k).length < k
   ·have h9 : ((p.s.evs.take (i + 1)).filter (inSp l)).take k = ((p.s.evs.take i).filter (inSp l)).take k ++ [e] := by rw [hts, if_pos ⟨hp, hk⟩]
    repeat' (first|refine Sp.h ?_|refine Lk.r rfl ?_|refine Rf.mk rfl ?_|refine xA ?_|refine xP ?_|refine All.mk fun _=>?_|refine xU ?_|refine xT ?_|refine xI ?_|refine Ce.r ?_|refine Ch.l ⟨rfl, rfl⟩ ?_|(apply SetAsk.r;focus repeat' constructor)|(apply Fk.r;focus repeat' first|infer_instance|constructor)|refine xN ?_|refine Rf.mk ⟨rfl, rfl⟩ ?_|refine Rf.mk ⟨rfl, rfl, rfl⟩ ?_|(apply Mp.lit;(focus repeat (first|exact MpL.nil|(apply MpL.cons;(focus rfl))|(apply MpL.inv;(focus repeat constructor);(focus infer_instance)))))|refine xO ?_|(apply Cl.p (hwe);focus repeat' constructor))
    all_goals exact PA.lp (i + 1, _) ⟨by (repeat first|exact trivial|refine ⟨rfl, ?_⟩), by simp only [h9];(repeat first|exact .nil|refine .cons (by repeat constructor) ?_)⟩ ⟨hin, by simp only;omega⟩
   ·have h9 : ((p.s.evs.take (i + 1)).filter (inSp l)).take k = ((p.s.evs.take i).filter (inSp l)).take k := by rw [hts, if_neg (fun h9 => hk h9.2)]
    repeat' (first|refine Sp.h ?_|refine Lk.r rfl ?_|refine Rf.mk rfl ?_|refine xA ?_|refine xB ?_|refine All.mk fun _=>?_|refine xU ?_|refine xT ?_|refine xI ?_|refine Ch.l ⟨rfl, rfl⟩ ?_|(apply SetAsk.r;focus repeat' constructor)|refine xN ?_|refine xO ?_|(apply Cl.p (hwe);focus repeat' constructor))
    all_goals exact PA.lp (i + 1, _) ⟨by (repeat first|exact trivial|refine ⟨rfl, ?_⟩), by simp only [h9];(repeat first|exact .nil|refine .cons (by repeat constructor) ?_)⟩ ⟨hin, by simp only;omega⟩
 ·have hie : i = p.s.evs.length := by omega
  subst hie
  rw [List.take_length]
  repeat' (first|refine Sp.h ?_|refine Lk.r rfl ?_|refine Rf.mk rfl ?_|refine xB ?_|refine xN ?_|fail)
  exact ⟨_, arrR u 40 13 ((p.s.evs.filter (inSp l)).take k) evC :: prR pb sp bb mb m v vc p, .tup (.same (.same (.z))), _, rfl, rfl⟩
end Go.Proofs.YtajenkpjcbaadaaGreat
namespace Go.Proofs.YtajenkpjcbaadaaGreat
open Go Go.CF
set_option maxRecDepth 20000
structure Fine (m : ModS) (N B : Nat) (p : PrS) : Prop where
 ok : PrOK m N B p
 ev : ∀ e ∈ p.s.evs, e.past.length ≤ 1000000
noncomputable def sndL (N : Nat) (most : Int) (a b : PrS) : List EvS := (serveF N a.s.evs most (wantsF b.s.now.clock b.H a.s.now.clock).2).2
noncomputable def sndF (m : ModS) (N : Nat) (most : Int) (a b : PrS) : Int × PrS := ((takeF m (sndL N most a b) b).1, (takeF m (sndL N most a b) b).2.1)
theorem sndL_len (N : Nat) (most : Int) (a b : PrS) : (sndL N most a b).length ≤ 1024 := by
 unfold sndL serveF
 split
 ·rename_i h
  simp only [List.length_take]
  omega
 ·simp
set_option maxHeartbeats 4000000 in
theorem send_a (pa sa ba ma : Nat) (va wa : Value) (pb sb bb mb : Nat) (vb wb : Value) (m : ModS) (N B : Nat) (a b : PrS) (most : Int) (hm : MOK m) (ha : Fine m N B a) (hb : Fine m N B b) (hB : B ≤ 80000) (hN : N ≤ 5) :
  CallA Tryz.prog 52 [pm pa, pm pb, .ad [it most] 0] (prR pa sa ba ma m va wa a ++ prR pb sb bb mb m vb wb b) fun r own => r = .tup [it ((sndL N most a b).length : Nat), it (sndF m N most a b).1] ∧ ∃ v', own = prR pa sa ba ma m va wa a ++ prR pb sb bb mb m v' wb (sndF m N most a b).2 := by
 have h1 := sclock_p sa m a.s.base va a.s.now (by have := ha.ok.n;omega)
 have h2 := wants_a pb sb bb mb m vb wb N B b a.s.now.clock hb.ok
 have h3 := serve_a pa sa ba ma m va wa N B a most (wantsF b.s.now.clock b.H a.s.now.clock).2 ha.ok (by omega) hN ha.ev
 have hl := sndL_len N most a b
 have h4 := take_a pb sb bb mb m vb wb N B b (sndL N most a b) hm hb.ok hN (by omega)
 unfold sndF
 change CallA _ _ _ _ fun r own => r = .tup [evs (sndL N most a b), _] ∧ _ at h3
 refine CallA.of pg ord52 Tryz.func52 rfl Tryz.ntmps52 Tryz.results52 rfl fun h0 G0 O0 => ?_
 repeat' (first|refine Sp.h ?_|refine Lk.r rfl ?_|refine Rf.mk rfl ?_|refine xT ?_|fail)
 refine xW (h1) ?_
 rintro _ _ ⟨rfl, rfl⟩
 repeat' (first|refine Sp.h ?_|refine Lk.r rfl ?_|refine Rf.mk rfl ?_|fail)
 refine xW (h2) ?_
 rintro _ _ ⟨rfl, rfl⟩
 repeat' (first|refine Sp.h ?_|refine Lk.r rfl ?_|refine Rf.mk rfl ?_|fail)
 refine xW (h3) ?_
 rintro _ _ ⟨rfl, rfl⟩
 repeat' (first|refine Sp.h ?_|refine Lk.r rfl ?_|refine Rf.mk rfl ?_|fail)
 refine xW (h4) ?_
 rintro _ _ ⟨rfl, v', rfl⟩
 repeat' (first|refine Sp.h ?_|refine Lk.r rfl ?_|refine Rf.mk rfl ?_|refine Im.mk fun _=>?_|refine xN ?_|fail)
 exact ⟨_, prR pa sa ba ma m va wa a ++ prR pb sb bb mb m v' wb (takeF m (sndL N most a b) b).2.1, .tup (.same (.same (.z))), rfl, v', rfl⟩
inductive RecK (m : ModS) (N B : Nat) (most : Int) : PrS → PrS → Nat → Nat → PrS → PrS → Prop
 | last {a b : PrS} : Fine m N B a → Fine m N B b → Fine m N B (sndF m N most a b).2 → (sndF m N most a b).1 = 0 → (sndF m N most (sndF m N most a b).2 a).1 = 0 → sndL N most a b = [] → sndL N most (sndF m N most a b).2 a = [] →
   RecK m N B most a b 1 0 (sndF m N most (sndF m N most a b).2 a).2 (sndF m N most a b).2
 | step {a b a' b' : PrS} {r s : Nat} : Fine m N B a → Fine m N B b → Fine m N B (sndF m N most a b).2 → (sndF m N most a b).1 = 0 → (sndF m N most (sndF m N most a b).2 a).1 = 0 →
   0 < (sndL N most a b).length + (sndL N most (sndF m N most a b).2 a).length → RecK m N B most (sndF m N most (sndF m N most a b).2 a).2 (sndF m N most a b).2 r s a' b' →
   RecK m N B most a b (r + 1) ((sndL N most a b).length + (sndL N most (sndF m N most a b).2 a).length + s) a' b'
theorem RecK.fine {m : ModS} {N B : Nat} {most : Int} {a b a' b' : PrS} {r s : Nat} (h : RecK m N B most a b r s a' b') : Fine m N B a ∧ Fine m N B b := by
 cases h <;> exact ⟨by assumption, by assumption⟩
def recO : Nat → Ord × (Nat → Cls) := fun id => bif Nat.beq id 1 then (.one 0 (.one 1 (.one 2 (.one 3 (.one 4 (.one 5 (.one 6 (.one 7 (.one 10 (.one 11 (.one 12 (.alt 8 (.one 9 (.one 13 (.one 14 (.one 15 (.one 16 (.one 17 .done)))))) (.alt 13 (.one 8 (.one 9 (.one 14 (.one 15 (.one 16 (.one 17 .done)))))) (.none))))))))))))), clOf [.read, .loud, .pure, .pure, .pure, .pure, .pure, .read, .loud, .pure, .pure, .pure, .pure, .ext, .loud, .pure, .pure, .pure]) else (.done, clOf [])
abbrev prR2 (pa sa ba ma : Nat) (va wa : Value) (pb sb bb mb : Nat) (vb wb : Value) (m : ModS) (a b : PrS) : List Res := prR pa sa ba ma m va wa a ++ prR pb sb bb mb m vb wb b
set_option maxHeartbeats 8000000 in
theorem recon_a (pa sa ba ma : Nat) (va wa : Value) (pb sb bb mb : Nat) (vb wb : Value) (m : ModS) (N B : Nat) (a b a' b' : PrS) (most : Int) (R S : Nat) (hm : MOK m) (h : RecK m N B most a b R S a' b') (hB : B ≤ 80000) (hN : N ≤ 5) (hmo : 1 ≤ most ∧ most ≤ 1024) (hR : R ≤ 100000) (hS : S ≤ 1000000000) :
  CallA Tryz.prog 14 [pm pa, pm pb, it most] (prR2 pa sa ba ma va wa pb sb bb mb vb wb m a b) fun r own => r = .tup [it R, it S, it 0] ∧ ∃ va' vb', own = prR2 pa sa ba ma va' wa pb sb bb mb vb' wb m a' b' := by
 have hfa := h.fine.1.ok.n
 have hfb := h.fine.2.ok.n
 have h1 := sclock_p sa m a.s.base va a.s.now (by omega)
 have h2 := sclock_p sb m b.s.base vb b.s.now (by omega)
 have h3 := fewA_p most
 rw [decide_eq_true hmo] at h3
 have heq : (a.s.now.clock.length : Int) = (b.s.now.clock.length : Int) := by omega
 refine CallA.of pg recO Tryz.func14 rfl Tryz.ntmps14 Tryz.results14 rfl fun h0 G0 O0 => ?_
 (repeat' (first|(show CA _ _ (Code.region 1 _ _) _ _;apply Stopped.out)|refine Sp.h ?_|refine Lk.r rfl ?_|refine Rf.mk rfl ?_|refine All.mk fun _=>?_|fail));any_goals apply Stopped.mk
 rename_i b5
 refine CA.cut (fun _ : Unit => ⟨[(0, pm pa), (1, pm pb), (5, pm b5), (32, .val (.bool (decide ¬ (a.s.now.clock.length : Int) = (b.s.now.clock.length : Int))))], blkR b5 3 [it most] :: prR2 pa sa ba ma va wa pb sb bb mb vb wb m a b⟩) (fun _ => True) ?_ ?_
 ·repeat' (first|refine Sp.h ?_|refine Lk.r rfl ?_|refine Rf.mk rfl ?_|refine xA ?_|refine OpK.r rfl ?_|refine xT ?_|refine xD ?_|exact trivial|apply RA'.both|(apply Cl.p (h3);focus (repeat' constructor);done)|(apply Cl.p (h3);focus (repeat' constructor);done))
  all_goals refine xW (h1) ?_
  all_goals rintro _ _ ⟨rfl, rfl⟩
  all_goals repeat' (first|refine Sp.h ?_|refine Lk.r rfl ?_|refine Rf.mk rfl ?_|refine xA ?_|refine OpK.r rfl ?_|refine Im.mk fun _=>?_|refine xT ?_|fail)
  all_goals refine xW (h2) ?_
  all_goals rintro _ _ ⟨rfl, rfl⟩
  all_goals repeat' (first|refine Sp.h ?_|refine Lk.r rfl ?_|refine xA ?_|refine OpK.r rfl ?_|refine Im.mk fun _=>?_|fail)
  all_goals exact PA.lp () xE trivial
 rintro - -
 (repeat' (first|(show CA _ _ (Code.region 3 _ _) _ _;apply Stopped.out)|refine Sp.h ?_|refine Lk.r rfl ?_|refine xA ?_|fail));any_goals apply Stopped.mk
 apply CA.freezeB 5
 focus rfl
 focus (repeat constructor)
 repeat' (first|refine Sp.h ?_|refine Lk.r rfl ?_|refine Rf.mk rfl ?_|fail)
 refine CA.loop (fun x : Nat × Nat × Nat × PrS × PrS × Value × Value => ⟨[(0, pm pa), (1, pm pb), (9, .fn 52 [.ad [it most] 0]), (10, it x.2.1), (11, it x.2.2.1)], prR2 pa sa ba ma x.2.2.2.2.2.1 wa pb sb bb mb x.2.2.2.2.2.2 wb m x.2.2.2.1 x.2.2.2.2.1⟩)
  (fun x => x.2.1 + x.1 = R ∧ ∃ s', x.2.2.1 + s' = S ∧ RecK m N B most x.2.2.2.1 x.2.2.2.2.1 x.1 s' a' b') (fun x => x.1) (R, 0, 0, a, b, va, vb) xE ⟨by simp, S, by simp, h⟩ ?_
 rintro ⟨k, rd, sd, a0, b0, va0, vb0⟩ ⟨hk, s', hs, hrec⟩
 simp only at hk hs hrec
 simp only
 have hfin := hrec.fine
 have hs1 := send_a pa sa ba ma va0 wa pb sb bb mb vb0 wb m N B a0 b0 most hm hfin.1 hfin.2 hB hN
 obtain ⟨b1, hb1⟩ : ∃ b1, b1 = (sndF m N most a0 b0).2 := ⟨_, rfl⟩
 have hc : Fine m N B b1 ∧ (sndF m N most a0 b0).1 = 0 ∧ (sndF m N most b1 a0).1 = 0 := by
  rw [hb1]
  cases hrec <;> exact ⟨by assumption, by assumption, by assumption⟩
 obtain ⟨c1, c2, c3⟩ := hc
 have hs2 := fun vb1 => send_a pb sb bb mb vb1 wb pa sa ba ma va0 wa m N B b1 a0 most hm c1 hfin.1 hB hN
 simp only [c2, c3, ← hb1] at hs1 hs2
 obtain ⟨n1, hn1⟩ : ∃ n1, n1 = (sndL N most a0 b0).length := ⟨_, rfl⟩
 obtain ⟨n2, hn2⟩ : ∃ n2, n2 = (sndL N most b1 a0).length := ⟨_, rfl⟩
 have hl1 := sndL_len N most a0 b0
 have hl2 := sndL_len N most b1 a0
 simp only [← hn1, ← hn2] at hs1 hs2 hl1 hl2
 repeat' (first|refine Sp.h ?_|refine Lk.r rfl ?_|refine Rf.mk rfl ?_|refine xO ?_|fail)
 refine xW (hs1) ?_
 rintro _ _ ⟨rfl, vb1, rfl⟩
 repeat' (first|refine Sp.h ?_|refine Lk.r rfl ?_|refine Rf.mk rfl ?_|refine xA ?_|fail)
 have hs2' := hs2 vb1
 refine xW (hs2') ?_
 rintro _ _ ⟨rfl, va1, rfl⟩
 by_cases hz : n1 + n2 = 0
 ·have hz' : (n1 : Int) + (n2 : Int) = 0 := by omega
  obtain ⟨e1, e2, e3, e4⟩ : k = 1 ∧ s' = 0 ∧ a' = (sndF m N most b1 a0).2 ∧ b' = b1 := by
   cases hrec with
   | last => exact ⟨rfl, rfl, by rw [hb1], by rw [hb1]⟩
   | step _ _ _ _ _ h9 _ => rw [← hb1, ← hn1, ← hn2] at h9;omega
  subst e1;subst e2;subst e3;subst e4
  have hz1 : n1 = 0 := by omega
  have hz2 : n2 = 0 := by omega
  subst hz1;subst hz2
  have hRS : (rd : Int) + 1 = (R : Int) ∧ (sd : Int) + (((0 : Nat) : Int) + ((0 : Nat) : Int)) = (S : Int) := by omega
  obtain ⟨hR1, hS1⟩ := hRS
  repeat' (first|refine Sp.h ?_|refine Lk.r rfl ?_|refine Rf.mk rfl ?_|refine xA ?_|refine xN ?_|refine xO ?_|fail)
  rw [hR1, hS1]
  exact ⟨_, prR2 pa sa ba ma va1 wa pb sb bb mb vb1 wb m _ b', .tup (.same (.same (.same (.z)))), rfl, va1, vb1, rfl⟩
 ·have hz' : ¬ (n1 : Int) + (n2 : Int) = 0 := by omega
  obtain ⟨k', s'', e1, e2, e3⟩ : ∃ k' s'', k = k' + 1 ∧ s' = n1 + n2 + s'' ∧ RecK m N B most (sndF m N most b1 a0).2 b1 k' s'' a' b' := by
   cases hrec with
   | last _ _ _ _ _ h8 h9 => rw [← hb1] at h9;rw [h8] at hn1;rw [h9] at hn2;simp only [List.length_nil] at hn1 hn2;omega
   | step _ _ _ _ _ _ h9 => exact ⟨_, _, rfl, by rw [hn1, hn2, hb1], by rw [hb1];rw [← hb1] at h9 ⊢;exact h9⟩
  repeat' (first|refine Sp.h ?_|refine Lk.r rfl ?_|refine Rf.mk rfl ?_|refine xA ?_|refine xB ?_|refine xO ?_|fail)
  refine PA.lp (k', rd + 1, sd + (n1 + n2), (sndF m N most b1 a0).2, b1, va1, vb1) xE ⟨⟨by simp only;omega, s'', by simp only;omega, e3⟩, by simp only;omega⟩
end Go.Proofs.YtajenkpjcbaadaaGreat
namespace Go.Proofs.YtajenkpjcbaadaaGreat
open Go Go.CF
set_option maxRecDepth 20000
section
variable (pb sp bb mb : Nat) (m : ModS) (v vc : Value) (p : PrS)
theorem pstore_a : CallA Tryz.prog 19 [pm pb] (prR pb sp bb mb m v vc p) fun r own => r = pm sp ∧ own = prR pb sp bb mb m v vc p := by
 refine CallA.of pg ord19 Tryz.func19 rfl Tryz.ntmps19 Tryz.results19 rfl fun h0 G0 O0 => ?_
 repeat' (first|refine Sp.h ?_|refine Lk.r rfl ?_|refine Rf.mk rfl ?_|refine xT ?_|refine xN ?_|fail)
 exact ⟨_, prR pb sp bb mb m v vc p, .one (.same (.z)), rfl, rfl⟩
end
theorem anew_a (s : Nat) (m : ModS) (b : NowS) (v : Value) (evl : List EvS) (w : NowS) (h : ValC w.clock) : CallA Tryz.prog 40 [pm s] [stoR s m b v w, arrR v 40 13 evl evC] fun r own => ∃ pb bb vc mb, r = .tup [pm pb, it 0] ∧ own = prR pb s bb mb m v vc ⟨⟨b, evl, w⟩, w.clock, [], 0⟩ := by
 have h1 := sclock_p s m b v w (by have := h.2.2;omega)
 have h2 := dnew_a w.clock h
 refine CallA.of pg ord40 Tryz.func40 rfl Tryz.ntmps40 Tryz.results40 rfl fun h0 G0 O0 => ?_
 repeat' (first|refine Sp.h ?_|refine Lk.r rfl ?_|refine Rf.mk rfl ?_|refine xB ?_|fail)
 refine xW (h1) ?_
 rintro _ _ ⟨rfl, rfl⟩
 repeat' (first|refine Sp.h ?_|refine Lk.r rfl ?_|refine Rf.mk rfl ?_|fail)
 refine xW (h2) ?_
 rintro _ _ ⟨bb, vc, mb, rfl, rfl⟩
 repeat' (first|refine Sp.h ?_|refine Lk.r rfl ?_|refine Rf.mk rfl ?_|refine xA ?_|refine All.mk fun _=>?_|(apply Fk.r;focus repeat' first|infer_instance|constructor)|refine xN ?_|fail)
 rename_i pb
 exact ⟨_, prR pb s bb mb m v vc ⟨⟨b, evl, w⟩, w.clock, [], 0⟩, .tup (.same (.same (.z))), pb, bb, vc, mb, rfl, rfl⟩
noncomputable def newP (m : ModS) (n : Nat) (ld : List Int) : PrS := ⟨⟨stN m n ld [], [], stN m n ld []⟩, List.replicate n 0, [], 0⟩
theorem valC_zero {n : Nat} (h : 1 ≤ n ∧ n ≤ 5) : ValC (List.replicate n 0) := ⟨fun x hx => by rw [(List.mem_replicate.1 hx).2];unfold rngK;omega, by simp;omega, by simp;omega⟩
theorem hldOK_nil (N : Nat) : HldOK N [] := ⟨fun p hp => (nomatch hp), fun p hp => (nomatch hp), fun p hp => (nomatch hp), by simp, fun i j a b h => by simp at h⟩
theorem newP_fine {m : ModS} {n : Nat} {ld : List Int} (h : 1 ≤ n ∧ n ≤ 5) (hl : ld.length = strF m) : Fine m n 0 (newP m n ld) :=
 ⟨⟨⟨valC_zero h, hl, List.Pairwise.nil, Nat.zero_le _⟩, by simp [newP, stN, clkE], by simp [newP], hldOK_nil n, by simp [newP], by simp [newP, stN]⟩, fun e he => (nomatch he)⟩
theorem peer_a (m : ModS) (n : Nat) (ld : List Int) (hm : MOK m) (h : 1 ≤ n ∧ n ≤ 5) (hl : ld.length = strF m) (hs : insS ld) : CallA Tryz.prog 9 [mdl m, it n, ints ld] [] fun r own => ∃ pb sp bb mb v vc, r = pm pb ∧ own = prR pb sp bb mb m v vc (newP m n ld) := by
 have h1 : CallA Tryz.prog 39 [mdl m, it n, ints ld] [] fun q own => ∃ p v, q = .tup [pm p, it 0] ∧ own = [stoR p m (stN m n ld []) v (stN m n ld []), arrR v 40 13 ([] : List EvS) evC] := new35_a m n ld hm h hl hs
 have h2 := fun p v => anew_a p m (stN m n ld []) v [] (stN m n ld []) (valC_zero h)
 have h3 := fun pb sp bb mb v vc => pstore_a pb sp bb mb m v vc (newP m n ld)
 refine CallA.of pg ord9 Tryz.func9 rfl Tryz.ntmps9 Tryz.results9 rfl fun h0 G0 O0 => ?_
 repeat' (first|refine Sp.h ?_|refine Lk.r rfl ?_|refine Rf.mk rfl ?_|refine All.mk fun _=>?_|refine xT ?_|refine Ch.l ⟨rfl, rfl⟩ ?_|fail)
 refine xW (h1) ?_
 rintro _ _ ⟨p, v, rfl, rfl⟩
 have h2' := h2 p v
 repeat' (first|refine Sp.h ?_|refine Lk.r rfl ?_|refine Rf.mk rfl ?_|refine xA ?_|refine xB ?_|fail)
 refine xW (h2') ?_
 rintro _ _ ⟨pb, bb, vc, mb, rfl, rfl⟩
 have h3' := h3 pb p bb mb v vc
 repeat' (first|refine Sp.h ?_|refine Lk.r rfl ?_|refine Rf.mk rfl ?_|refine xA ?_|refine xB ?_|fail)
 refine xW (h3') ?_
 rintro _ _ ⟨rfl, rfl⟩
 repeat' (first|refine Sp.h ?_|refine Lk.r rfl ?_|refine Rf.mk rfl ?_|refine xB ?_|refine xN ?_|fail)
 exact ⟨_, prR pb p bb mb m v vc (newP m n ld), .one (.same (.z)), pb, p, bb, mb, v, vc, rfl, rfl⟩
end Go.Proofs.YtajenkpjcbaadaaGreat
namespace Go.Proofs.YtajenkpjcbaadaaGreat
open Go Go.CF
set_option maxRecDepth 20000
theorem hld_nodup {N : Nat} {H : List (List Int × EvS)} (h : HldOK N H) : (H.map (·.1)).Nodup := by
 have h1 := uniq_pair.1 h.nd
 rw [List.pairwise_map] at h1
 refine List.pairwise_map.2 (List.Pairwise.imp_of_mem (fun {a b} ha hb h9 h8 => h9 ?_) h1)
 have ka := h.key a ha;have kb := h.key b hb
 unfold nm
 rw [← ka, ← kb, h8]
theorem look_none {β : Type} {H : List (List Int × β)} {k : List Int} (h : lookL H k = none) : ∀ p ∈ H, p.1 ≠ k := fun p hp h9 => by
 unfold lookL at h
 rw [Option.map_eq_none_iff, List.find?_eq_none] at h
 exact h p hp (decide_eq_true h9)
theorem look_some {β : Type} {H : List (List Int × β)} {k : List Int} (h : (lookL H k).isSome = true) : ∃ p ∈ H, p.1 = k := by
 cases h9 : lookL H k with
 | none => rw [h9] at h;cases h
 | some v =>
  unfold lookL at h9
  cases h8 : H.find? fun p => decide (p.1 = k) with
  | none => rw [h8] at h9;cases h9
  | some p =>
   have := List.find?_some h8
   exact ⟨p, List.mem_of_find?_eq_some h8, of_decide_eq_true this⟩
theorem del_mem {N : Nat} {H : List (List Int × EvS)} (h : HldOK N H) {k : List Int} {q : List Int × EvS} (hq : q ∈ delL H k) : q ∈ H ∧ q.1 ≠ k := by
 refine ⟨(delL_sub k H).mem hq, ?_⟩
 have h1 := lookL_del (hld_nodup h) k k
 rw [if_pos rfl] at h1
 exact look_none h1 q hq
theorem del_keep {β : Type} {k : List Int} {q : List Int × β} : ∀ {H : List (List Int × β)}, q ∈ H → q.1 ≠ k → q ∈ delL H k
 | (k', u) :: H, hq, hk => by
  simp only [delL]
  split
  ·rename_i h9
   rcases List.mem_cons.1 hq with rfl|hq
   ·exact absurd h9 hk
   ·exact hq
  ·rcases List.mem_cons.1 hq with rfl|hq
   ·exact List.mem_cons_self
   ·exact List.mem_cons_of_mem _ (del_keep hq hk)
theorem rdy_iff {l D : List EvS} (hc : ClosedE l) (hD : Cau l D) {e : EvS} (he : e ∈ l) : RdyE (clkE (n0 l) D) e ↔ e ∉ D ∧ ∀ d ∈ l, HasC e.past d.rep d.num → d ∈ D := by
 have hr := n0_rng hc he
 have hf := hc.2.2.1 e he
 have hal : AlikeC [clkE (n0 l) D, e.past] := (alike2 _ _).2 ⟨clk_valC hc hD.sub hr, hf.1.1, by rw [clkE_len, hf.2]⟩
 constructor
 ·intro h
  refine ⟨fun h9 => h.1 ((clk_has hc hD he).2 h9), fun d hd hh => (clk_has hc hD hd).1 ?_⟩
  have hin := h.2 hal
  obtain ⟨_, g2, g3, x, g4, g5⟩ := hh
  obtain ⟨y, hy⟩ := get_of (l := clkE (n0 l) D) (i := d.rep.toNat) (by rw [clkE_len, ← hf.2];exact (List.getElem?_eq_some_iff.1 g4).1)
  exact ⟨hal.2 _ (by simp) |>.1, g2, g3, y, hy, by have := hin _ _ _ g4 hy;omega⟩
 ·intro h
  exact ⟨fun h9 => h.1 ((clk_has hc hD he).1 h9), fun _ => clk_ins hc hD he h.2⟩
theorem stlF_end {N : Nat} : ∀ (n : Nat) (c : List Int) (H : List (List Int × EvS)) (out : List EvS), HldOK N H → H.length < n → ∀ q ∈ (stlF n c H out).2.2, ¬ RdyE (stlF n c H out).2.1 q.2
 | 0, c, H, out, h, hn => by omega
 | n + 1, c, H, out, h, hn => by
  simp only [stlF]
  cases he : (ordE (H.map (·.2)))[idxN (rdyB c) (ordE (H.map (·.2)))]? with
  | none =>
   intro q hq hr
   have h1 : idxN (rdyB c) (ordE (H.map (·.2))) < (ordE (H.map (·.2))).length := idxN_lt.2 ⟨q.2, ordE_mem.2 (List.mem_map_of_mem hq), decide_eq_true hr⟩
   rw [List.getElem?_eq_getElem h1] at he
   cases he
  | some e =>
   obtain ⟨p, hp, rfl⟩ := List.mem_map.1 (ordE_mem.1 (List.mem_of_getElem? he))
   have := delL_len (k := [p.2.rep, p.2.num]) ⟨p, hp, h.key p hp⟩
   exact stlF_end n _ _ _ (h.del _) (by omega)
theorem clkE_snoc (n : Nat) (D : List EvS) (e : EvS) : clkE n (D ++ [e]) = cntF (clkE n D) e := by simp only [clkE, List.foldl_append, cntF];rfl
structure BufI (l D : List EvS) (c : List Int) (H : List (List Int × EvS)) : Prop where
 ext : ExtO l D
 clk : c = clkE (n0 l) D
 hld : HldOK (n0 l) H
 hin : ∀ q ∈ H, q.2 ∈ l ∧ q.2 ∉ D
def NrdI (l D : List EvS) (H : List (List Int × EvS)) : Prop := ∀ q ∈ H, ¬ ∀ d ∈ l, HasC q.2.past d.rep d.num → d ∈ D
theorem BufI.step {l D : List EvS} {c : List Int} {H : List (List Int × EvS)} (hc : ClosedE l) (h : BufI l D c H) {e : EvS} (he : e ∈ l) (hr : RdyE c e) : BufI l (D ++ [e]) (cntF c e) (delL H [e.rep, e.num]) := by
 rw [h.clk] at hr
 obtain ⟨h1, h2⟩ := (rdy_iff hc h.ext.all he).1 hr
 refine ⟨h.ext.snoc he h1 h2, by rw [clkE_snoc, ← h.clk], h.hld.del _, fun q hq => ?_⟩
 obtain ⟨hq1, hq2⟩ := del_mem h.hld hq
 refine ⟨(h.hin q hq1).1, fun h9 => ?_⟩
 rcases List.mem_append.1 h9 with h9|h9
 ·exact (h.hin q hq1).2 h9
 ·rw [List.mem_singleton] at h9
  rw [h.hld.key q hq1, h9] at hq2
  exact hq2 rfl
theorem stlF_inv {l D : List EvS} {c : List Int} {H : List (List Int × EvS)} (hc : ClosedE l) (h : BufI l D c H) (n : Nat) :
  BufI l (D ++ (stlF n c H []).1) (stlF n c H []).2.1 (stlF n c H []).2.2 ∧ (∀ q ∈ H, q.2 ∈ D ++ (stlF n c H []).1 ∨ q ∈ (stlF n c H []).2.2) := by
 have := stlF_ind (fun c' K o => BufI l (D ++ o) c' K ∧ (∀ q ∈ H, q.2 ∈ D ++ o ∨ q ∈ K)) (fun d K o p hK h1 hp hr => by
  obtain ⟨b, g⟩ := h1
  have hb := b.step hc (b.hin p hp).1 hr
  rw [List.append_assoc] at hb
  refine ⟨hb, fun q hq => ?_⟩
  rcases g q hq with g|g
  ·left;rw [← List.append_assoc];exact List.mem_append_left _ g
  ·by_cases hqp : q.1 = [p.2.rep, p.2.num]
   ·left
    have hqe : q.2 = p.2 := by
     have h9 := hK.key q g
     rw [hqp] at h9
     simp only [List.cons.injEq, and_true] at h9
     exact uniqP_of hc.2.1 _ (b.hin q g).1 _ (b.hin p hp).1 h9.1.symm h9.2.symm
    rw [hqe, ← List.append_assoc]
    exact List.mem_append_right _ List.mem_cons_self
   ·exact .inr (del_keep g hqp)) n c H [] h.hld ⟨by rw [List.append_nil];exact h, fun q hq => .inr hq⟩
 exact this.2
theorem extO_nodup {l D : List EvS} (h : ExtO l D) : D.Nodup := by
 refine List.pairwise_iff_getElem.2 fun i j hi hj hij h9 => ?_
 refine (h.nxt j _ (List.getElem?_eq_getElem hj)).1 ?_
 rw [← h9]
 exact List.mem_of_getElem? (i := i) (by rw [List.getElem?_take, if_pos hij, List.getElem?_eq_getElem hi])
theorem extO_len {l D : List EvS} (h : ExtO l D) : D.length ≤ l.length := (extO_nodup h).length_le_of_subset h.sub
theorem hld_len {l : List EvS} {N : Nat} {H : List (List Int × EvS)} (h : HldOK N H) (hin : ∀ q ∈ H, q.2 ∈ l) : H.length ≤ l.length := by
 have h1 : (H.map (·.2)).Nodup := (uniq_pair.1 h.nd).imp fun {a b} h9 h8 => h9 (by rw [h8])
 have := h1.length_le_of_subset (l₂ := l) fun x hx => by obtain ⟨q, hq, rfl⟩ := List.mem_map.1 hx;exact hin q hq
 rwa [List.length_map] at this
structure AddR (l D : List EvS) (H : List (List Int × EvS)) (e : EvS) (r : Int × List EvS × List Int × List (List Int × EvS)) : Prop where
 b : BufI l (D ++ r.2.1) r.2.2.1 r.2.2.2
 nrd : NrdI l (D ++ r.2.1) r.2.2.2
 got : e ∈ D ++ r.2.1 ∨ ∃ q ∈ r.2.2.2, q.2 = e
 keep : ∀ q ∈ H, q.2 ∈ D ++ r.2.1 ∨ q ∈ r.2.2.2
 out : ∀ x ∈ r.2.1, x = e ∨ ∃ q ∈ H, q.2 = x
 mem : ∀ q ∈ r.2.2.2, q ∈ H ∨ q.2 = e
theorem addB_inv {l D : List EvS} {c : List Int} {H : List (List Int × EvS)} (hc : ClosedE l) (hl : l.length ≤ 100) (h : BufI l D c H) (hn : NrdI l D H) {e : EvS} (he : e ∈ l) : AddR l D H e (addB c H e) := by
 have hf := hc.2.2.1 e he
 have hcl : c.length = n0 l := by rw [h.clk, clkE_len]
 have ho := addB_ok e h.hld hcl
 have hHl := hld_len h.hld fun q hq => (h.hin q hq).1
 have hid : ∀ k : Int, addB c H e = (k, [], c, H) → (e ∈ D ∨ ∃ q ∈ H, q.2 = e) → AddR l D H e (addB c H e) := fun k h9 h8 => by
  rw [h9]
  exact ⟨by rw [List.append_nil];exact h, by rw [List.append_nil];exact hn, by rw [List.append_nil];exact h8, fun q hq => .inr hq, fun x hx => (nomatch hx), fun q hq => .inl hq⟩
 have k1 : ¬ (¬ FormedE e ∨ e.past.length ≠ c.length) := by
  rintro (h9|h9)
  ·exact h9 hf.1
  ·exact h9 (by rw [hcl];exact hf.2)
 by_cases q1 : (lookL H [e.rep, e.num]).isSome = true ∨ HasC c e.rep e.num
 ·refine hid 6 (by rw [addB, if_neg k1, if_pos q1]) ?_
  rcases q1 with q1|q1
  ·obtain ⟨p, hp, hk⟩ := look_some q1
   rw [h.hld.key p hp] at hk
   simp only [List.cons.injEq, and_true] at hk
   exact .inr ⟨p, hp, uniqP_of hc.2.1 _ (h.hin p hp).1 _ he hk.1 hk.2⟩
  ·rw [h.clk] at q1
   exact .inl ((clk_has hc h.ext.all he).1 q1)
 have hlk : lookL H [e.rep, e.num] = none := by
  cases h9 : lookL H [e.rep, e.num] with
  | none => rfl
  | some v => exact absurd (.inl (by rw [h9];rfl)) q1
 have hne : ∀ q ∈ H, q.1 ≠ [e.rep, e.num] := look_none hlk
 by_cases q3 : RdyE c e
 ·have hr : addB c H e = (0, e :: (stlF ((delL H [e.rep, e.num]).length + 1) (cntF c e) (delL H [e.rep, e.num]) []).1, (stlF ((delL H [e.rep, e.num]).length + 1) (cntF c e) (delL H [e.rep, e.num]) []).2) := by rw [addB, if_neg k1, if_neg q1, if_pos q3]
  have hb := h.step hc he q3
  obtain ⟨s1, s2⟩ := stlF_inv hc hb ((delL H [e.rep, e.num]).length + 1)
  have s3 := stlF_end ((delL H [e.rep, e.num]).length + 1) (cntF c e) (delL H [e.rep, e.num]) [] hb.hld (Nat.lt_succ_self _)
  rw [List.append_assoc, List.singleton_append] at s1 s2
  have o3 := ho.out
  have o4 := ho.mem
  rw [hr] at o3 o4 ⊢
  refine ⟨s1, fun q hq h9 => s3 q hq ?_, .inl (List.mem_append_right _ List.mem_cons_self), fun q hq => s2 q (del_keep hq (hne q hq)), o3, o4⟩
  have h8 := s1.hin q hq
  have := (rdy_iff hc s1.ext.all h8.1).2 ⟨h8.2, h9⟩
  rwa [← s1.clk] at this
 ·have hr : addB c H e = (0, [], c, updL H [e.rep, e.num] e) := by rw [addB, if_neg k1, if_neg q1, if_neg q3, if_neg (by omega)]
  have hu := updL_none H [e.rep, e.num] e hlk
  have hnd : e ∉ D := fun h9 => q1 (.inr (by rw [h.clk];exact (clk_has hc h.ext.all he).2 h9))
  have hall : ∀ q ∈ updL H [e.rep, e.num] e, q ∈ H ∨ q = ([e.rep, e.num], e) := fun q hq => by
   rw [hu] at hq
   rcases List.mem_append.1 hq with hq|hq
   ·exact .inl hq
   ·exact .inr (List.mem_singleton.1 hq)
  have hld := ho.hld
  rw [hr] at hld ⊢
  refine ⟨⟨by rw [List.append_nil];exact h.ext, by rw [List.append_nil];exact h.clk, hld, fun q hq => ?_⟩, fun q hq => ?_, .inr ⟨([e.rep, e.num], e), by simp only;rw [hu];simp, rfl⟩, fun q hq => .inr (by simp only;rw [hu];exact List.mem_append_left _ hq), fun x hx => (nomatch hx), fun q hq => ?_⟩
  ·rw [List.append_nil]
   rcases hall q hq with hq|rfl
   ·exact h.hin q hq
   ·exact ⟨he, hnd⟩
  ·rw [List.append_nil]
   rcases hall q hq with hq|rfl
   ·exact hn q hq
   ·intro h9
    exact q3 (by rw [h.clk];exact (rdy_iff hc h.ext.all he).2 ⟨hnd, h9⟩)
  ·rcases hall q hq with hq|rfl
   ·exact .inl hq
   ·exact .inr rfl
end Go.Proofs.YtajenkpjcbaadaaGreat
namespace Go.Proofs.YtajenkpjcbaadaaGreat
open Go Go.CF
set_option maxRecDepth 20000
theorem deliver_les {m : ModS} {evl D : List EvS} {w : NowS} {e : EvS} (hs : ∀ x ∈ evl, x ∈ D) (h : (deliverF m D w e).1 = 0) : deliverF m evl w e = deliverF m D w e := by
 have hl : LateE evl e → LateE D e := fun ⟨x, h1, h2⟩ => ⟨x, hs x h1, h2⟩
 unfold deliverF at h ⊢
 by_cases c1 : ¬ EvV m (w.clock.length : Nat) e
 ·rw [if_pos c1, if_pos c1]
 rw [if_neg c1] at h ⊢
 rw [if_neg c1]
 by_cases c2 : HasC w.clock e.rep e.num
 ·rw [if_pos c2, if_pos c2]
 rw [if_neg c2] at h ⊢
 rw [if_neg c2]
 by_cases c3 : ¬ Ins e.past w.clock
 ·rw [if_pos c3, if_pos c3]
 rw [if_neg c3] at h ⊢
 rw [if_neg c3]
 by_cases c4 : LateE D e
 ·rw [if_pos c4] at h;exact absurd (show (2 : Int) = 0 from h) (by decide)
 rw [if_neg c4, if_neg fun h9 => c4 (hl h9)]
structure InvP (m : ModS) (ld : List Int) (l D : List EvS) (p : PrS) : Prop where
 err : p.err = 0
 sto : StoA m l ld D p.s.now
 evs : p.s.evs.Sublist D
 buf : BufI l D p.c p.H
 nrd : NrdI l D p.H
theorem dlvF_inv {m : ModS} {ld : List Int} {l : List EvS} (hs : SuitS m ld l) : ∀ (X D : List EvS) (s : StoS) (out : List EvS), ExtO l (D ++ X) → StoA m l ld D s.now → s.evs.Sublist D →
  ∃ w', dlvF m X s out = (0, ⟨s.base, s.evs ++ X, w'⟩, out ++ X) ∧ StoA m l ld (D ++ X) w'
 | [], D, s, out, _, h, _ => ⟨s.now, by simp [dlvF], by rw [List.append_nil];exact h⟩
 | x :: X, D, s, out, hx, h, hsub => by
  have hlen := extO_len hx
  have hl60 := hs.e.2.1.1
  simp only [List.length_append, List.length_cons] at hlen
  have hgx : (D ++ x :: X)[D.length]? = some x := by simp
  obtain ⟨n1, n2⟩ := hx.nxt _ _ hgx
  have hc := hx.cau D.length
  rw [List.take_left] at n1 n2 hc
  obtain ⟨w', d1, d2⟩ := deliver_ok hs.e (by omega) hs.smd hs.ld h (by omega) hc (hx.sub x (by simp)) n1 n2
  have d3 := deliver_les (m := m) (evl := s.evs) (fun y hy => hsub.mem hy) (by rw [d1])
  rw [d1] at d3
  have hx' : ExtO l ((D ++ [x]) ++ X) := by rw [List.append_assoc];exact hx
  obtain ⟨w2, e1, e2⟩ := dlvF_inv hs X (D ++ [x]) ⟨s.base, s.evs ++ [x], w'⟩ (out ++ [x]) hx' d2 (hsub.append (List.Sublist.refl _))
  refine ⟨w2, ?_, by rw [List.append_assoc] at e2;exact e2⟩
  simp only [dlvF, d3, if_pos]
  rw [e1]
  simp
structure TakR (m : ModS) (ld : List Int) (l D : List EvS) (p : PrS) (l' X : List EvS) (p' : PrS) : Prop where
 inv : InvP m ld l (D ++ X) p'
 evs : p'.s.evs = p.s.evs ++ X
 base : p'.s.base = p.s.base
 got : ∀ e ∈ l', e ∈ D ++ X ∨ ∃ q ∈ p'.H, q.2 = e
 keep : ∀ q ∈ p.H, q.2 ∈ D ++ X ∨ q ∈ p'.H
 out : ∀ x ∈ X, x ∈ l' ∨ ∃ q ∈ p.H, q.2 = x
 mem : ∀ q ∈ p'.H, q ∈ p.H ∨ q.2 ∈ l'
theorem takF_inv {m : ModS} {ld : List Int} {l : List EvS} (hs : SuitS m ld l) : ∀ (l' D : List EvS) (p : PrS) (out : List EvS), (∀ e ∈ l', e ∈ l) → InvP m ld l D p →
  ∃ X p', takF m l' p out = (0, p', out ++ X) ∧ TakR m ld l D p l' X p'
 | [], D, p, out, _, h => ⟨[], p, by simp [takF], ⟨by rw [List.append_nil];exact h, by simp, rfl, fun e he => (nomatch he), fun q hq => .inr hq, fun x hx => (nomatch hx), fun q hq => .inl hq⟩⟩
 | e :: l', D, p, out, hl', h => by
  have hc := hs.e.2.2.1
  have hl60 := hs.e.2.1.1
  have he := hl' e List.mem_cons_self
  have hv : EvV m (p.s.now.clock.length : Nat) e := by rw [h.sto.clock, clkE_len];exact hs.e.2.2.2.2 e he
  have ha := addB_inv hc (by omega) h.buf h.nrd he
  obtain ⟨A, hA⟩ : ∃ A, A = addB p.c p.H e := ⟨_, rfl⟩
  rw [← hA] at ha
  obtain ⟨w', d1, d2⟩ := dlvF_inv hs A.2.1 D p.s out ha.b.ext h.sto h.evs
  obtain ⟨p1, hp1⟩ : ∃ p1 : PrS, p1 = ⟨⟨p.s.base, p.s.evs ++ A.2.1, w'⟩, A.2.2.1, A.2.2.2, p.err⟩ := ⟨_, rfl⟩
  have hi1 : InvP m ld l (D ++ A.2.1) p1 := by
   rw [hp1]
   exact ⟨h.err, d2, h.evs.append (List.Sublist.refl _), ha.b, ha.nrd⟩
  obtain ⟨X, p', t1, t2⟩ := takF_inv hs l' (D ++ A.2.1) p1 (out ++ A.2.1) (fun x hx => hl' x (List.mem_cons_of_mem _ hx)) hi1
  have eH : p1.H = A.2.2.2 := by rw [hp1]
  have eE : p1.s.evs = p.s.evs ++ A.2.1 := by rw [hp1]
  have eB : p1.s.base = p.s.base := by rw [hp1]
  refine ⟨A.2.1 ++ X, p', ?_, ⟨by rw [← List.append_assoc];exact t2.inv, by rw [t2.evs, eE, List.append_assoc], by rw [t2.base, eB], fun x hx => ?_, fun q hq => ?_, fun x hx => ?_, fun q hq => ?_⟩⟩
  ·simp only [takF, ← hA, d1, if_pos]
   rw [if_neg (fun h9 => h9 hv), ← hp1, t1, List.append_assoc]
  ·rw [← List.append_assoc]
   rcases List.mem_cons.1 hx with rfl|hx
   ·rcases ha.got with g|⟨q, hq, rfl⟩
    ·exact .inl (List.mem_append_left _ g)
    ·rcases t2.keep q (by rw [eH];exact hq) with g|g
     ·exact .inl g
     ·exact .inr ⟨q, g, rfl⟩
   ·exact t2.got x hx
  ·rw [← List.append_assoc]
   rcases ha.keep q hq with g|g
   ·exact .inl (List.mem_append_left _ g)
   ·exact t2.keep q (by rw [eH];exact g)
  ·rcases List.mem_append.1 hx with hx|hx
   ·rcases ha.out x hx with rfl|g
    ·exact .inl List.mem_cons_self
    ·exact .inr g
   ·rcases t2.out x hx with g|⟨q, hq, rfl⟩
    ·exact .inl (List.mem_cons_of_mem _ g)
    ·rw [eH] at hq
     rcases ha.mem q hq with g|g
     ·exact .inr ⟨q, g, rfl⟩
     ·rw [g];exact .inl List.mem_cons_self
  ·rcases t2.mem q hq with g|g
   ·rw [eH] at g
    rcases ha.mem q g with g|g
    ·exact .inl g
    ·rw [g];exact .inr List.mem_cons_self
   ·exact .inr (List.mem_cons_of_mem _ g)
theorem takeF_inv {m : ModS} {ld : List Int} {l l' D : List EvS} {p : PrS} (hs : SuitS m ld l) (hl' : ∀ e ∈ l', e ∈ l) (h : InvP m ld l D p) : ∃ X p', takeF m l' p = (0, p', X) ∧ TakR m ld l D p l' X p' := by
 obtain ⟨X, p', t1, t2⟩ := takF_inv hs l' D p [] hl' h
 refine ⟨X, p', ?_, t2⟩
 rw [takeF, if_neg (fun h9 => h9 h.err), t1, List.nil_append]
theorem newP_inv {m : ModS} {ld : List Int} {l : List EvS} (hs : SuitS m ld l) : InvP m ld l [] (newP m (n0 l) ld) :=
 ⟨rfl, sto0 m l ld, List.Sublist.refl _, ⟨ExtO.nil l, rfl, hldOK_nil _, fun q hq => (nomatch hq)⟩, fun q hq => (nomatch hq)⟩
theorem InvP.fine {m : ModS} {ld : List Int} {l D : List EvS} {p : PrS} (hs : SuitS m ld l) (h : InvP m ld l D p) : Fine m (n0 l) 200 p := by
 have hc := hs.e.2.2.1
 have hl60 := hs.e.2.1.1
 obtain ⟨e, he⟩ := get_of (l := l) (i := 0) hs.ne
 have hr := n0_rng hc (List.mem_of_getElem? he)
 have h1 := extO_len h.buf.ext
 have h2 := hld_len h.buf.hld fun q hq => (h.buf.hin q hq).1
 have h3 := h.evs.length_le
 have hp : p.s.now.places.length ≤ D.length := by
  rw [h.sto.places, places_srt]
  have := srtD_len (plL D);have := plL_len D
  omega
 refine ⟨⟨⟨by rw [h.sto.clock];exact clk_valC hc h.buf.ext.sub hr, by rw [h.sto.state, foldE_len];exact hs.ln, by rw [h.sto.places, places_srt];exact (srtD_si _).1, by omega⟩, by rw [h.sto.clock, clkE_len], by rw [h.buf.clk, clkE_len], h.buf.hld, by omega, by omega⟩, fun x hx => ?_⟩
 have := (hc.2.2.1 x (h.buf.ext.sub x (h.evs.mem hx))).1.1.2.2
 omega
theorem all_here {m : ModS} {ld : List Int} {l D : List EvS} {p : PrS} (hs : SuitS m ld l) (h : InvP m ld l D p) (S : List EvS) (hS : ExtO l S) (hk : ∀ e ∈ S, e ∈ D ∨ ∃ q ∈ p.H, q.2 = e) : ∀ e ∈ S, e ∈ D := by
 have key : ∀ i, i ≤ S.length → ∀ e ∈ S.take i, e ∈ D := by
  intro i
  induction i with
  | zero => intro _ e he;simp at he
  | succ i ih =>
   intro hi e he
   obtain ⟨x, hx⟩ := get_of (l := S) (i := i) (by omega)
   rw [List.take_add_one, hx] at he
   rcases List.mem_append.1 he with he|he
   ·exact ih (by omega) e he
   ·rw [Option.toList_some, List.mem_singleton] at he
    subst he
    rcases hk e (List.mem_of_getElem? hx) with g|⟨q, hq, rfl⟩
    ·exact g
    ·exact absurd (fun d hd hh => ih (by omega) d ((hS.nxt i _ hx).2 d hd hh)) (h.nrd q hq)
 intro e he
 exact key S.length (Nat.le_refl _) e (by rw [List.take_length];exact he)
end Go.Proofs.YtajenkpjcbaadaaGreat
namespace Go.Proofs.YtajenkpjcbaadaaGreat
open Go Go.CF
set_option maxRecDepth 20000
def Cov (out : List SpS) (r n : Int) : Prop := ∃ s ∈ out, s.1 = r ∧ s.2.1 ≤ n ∧ n ≤ s.2.2
def szS : List SpS → Int
 | [] => 0
 | s :: l => s.2.2 - s.2.1 + 1 + szS l
theorem szS_app : ∀ a b : List SpS, szS (a ++ b) = szS a + szS b
 | [], b => by simp [szS]
 | s :: a, b => by simp only [List.cons_append, szS, szS_app a b];omega
theorem cov_app (a b : List SpS) (r n : Int) : Cov (a ++ b) r n ↔ Cov a r n ∨ Cov b r n := by
 unfold Cov
 constructor
 ·rintro ⟨s, hs, h⟩
  rcases List.mem_append.1 hs with hs|hs
  ·exact .inl ⟨s, hs, h⟩
  ·exact .inr ⟨s, hs, h⟩
 ·rintro (⟨s, hs, h⟩|⟨s, hs, h⟩)
  ·exact ⟨s, List.mem_append_left _ hs, h⟩
  ·exact ⟨s, List.mem_append_right _ hs, h⟩
theorem cov_one (s : SpS) (r n : Int) : Cov [s] r n ↔ s.1 = r ∧ s.2.1 ≤ n ∧ n ≤ s.2.2 := by
 unfold Cov
 constructor
 ·rintro ⟨x, hx, h⟩;rw [List.mem_singleton.1 hx] at h;exact h
 ·intro h;exact ⟨s, List.mem_cons_self, h⟩
theorem wnt1_nil (hb : Int → Int → Bool) (r n : Int) : wnt1 hb r n [] = if hb r n = true then [] else [(r, n, n)] := by
 unfold wnt1;rfl
theorem wnt1_snoc (hb : Int → Int → Bool) (r n : Int) (o : List SpS) (s : SpS) : wnt1 hb r n (o ++ [s]) = if hb r n = true then o ++ [s] else if s.1 = r ∧ s.2.2 = n - 1 then o ++ [(s.1, s.2.1, n)] else (o ++ [s]) ++ [(r, n, n)] := by
 unfold wnt1
 rw [show (o ++ [s])[(o ++ [s]).length - 1]? = some s by simp]
 have : (o ++ [s]).set ((o ++ [s]).length - 1) (s.1, s.2.1, n) = o ++ [(s.1, s.2.1, n)] := by simp
 simp only [this]
theorem wnt1_ok {N : Nat} {hb : Int → Int → Bool} {r n : Int} {out : List SpS} (hr : 0 ≤ r ∧ r < (N : Int)) (hn : 1 ≤ n ∧ n ≤ 1024) (h : ∀ s ∈ out, okSp N s) :
  (∀ s ∈ wnt1 hb r n out, okSp N s) ∧ (∀ q j, Cov (wnt1 hb r n out) q j ↔ Cov out q j ∨ q = r ∧ j = n ∧ hb r n = false) ∧ szS (wnt1 hb r n out) = szS out + (if hb r n = true then 0 else 1) := by
 have hone : okSp N (r, n, n) := ⟨hr.1, hr.2, hn.1, Int.le_refl _, hn.2⟩
 cases hb1 : hb r n with
 | true =>
  have hw : wnt1 hb r n out = out := by unfold wnt1;rw [if_pos hb1]
  rw [hw]
  exact ⟨h, fun q j => ⟨.inl, fun h9 => h9.elim id fun h8 => (nomatch h8.2.2)⟩, by simp⟩
 | false =>
  have happ : ∀ o : List SpS, (∀ s ∈ o, okSp N s) → (∀ s ∈ o ++ [(r, n, n)], okSp N s) ∧ (∀ q j, Cov (o ++ [(r, n, n)]) q j ↔ Cov o q j ∨ q = r ∧ j = n ∧ false = false) ∧ szS (o ++ [(r, n, n)]) = szS o + 1 := fun o ho => by
   refine ⟨fun s hs => ?_, fun q j => ?_, ?_⟩
   ·rcases List.mem_append.1 hs with hs|hs
    ·exact ho s hs
    ·rw [List.mem_singleton.1 hs];exact hone
   ·rw [cov_app, cov_one]
    refine or_congr Iff.rfl ⟨fun h9 => ⟨h9.1.symm, by have := h9.2;simp only at this;omega, rfl⟩, fun h9 => ⟨h9.1.symm, by simp only;omega, by simp only;omega⟩⟩
   ·rw [szS_app];simp only [szS];omega
  rcases List.eq_nil_or_concat out with rfl|⟨o, s, rfl⟩
  ·rw [wnt1_nil, hb1, if_neg Bool.false_ne_true]
   have := happ [] (fun s hs => (nomatch hs))
   rw [List.nil_append] at this
   exact this
  ·rw [List.concat_eq_append] at h ⊢
   rw [wnt1_snoc, hb1, if_neg Bool.false_ne_true]
   by_cases hc : s.1 = r ∧ s.2.2 = n - 1
   ·rw [if_pos hc]
    obtain ⟨r', f, t⟩ := s
    obtain ⟨rfl, h2⟩ := hc
    simp only at h2
    subst h2
    obtain ⟨k1, k2, k3, k4, k5⟩ := h (r', f, n - 1) (List.mem_append_right _ List.mem_cons_self)
    simp only at k1 k2 k3 k4 k5
    refine ⟨fun s hs => ?_, fun q j => ?_, ?_⟩
    ·rcases List.mem_append.1 hs with hs|hs
     ·exact h s (List.mem_append_left _ hs)
     ·rw [List.mem_singleton.1 hs]
      exact ⟨k1, k2, k3, by simp only;omega, hn.2⟩
    ·rw [cov_app, cov_app, cov_one, cov_one, or_assoc]
     refine or_congr Iff.rfl ?_
     simp only
     constructor
     ·intro h9
      by_cases hj : j = n
      ·exact .inr ⟨h9.1.symm, hj, trivial⟩
      ·exact .inl ⟨h9.1, h9.2.1, by omega⟩
     ·rintro (h9|h9)
      ·exact ⟨h9.1, h9.2.1, by omega⟩
      ·exact ⟨h9.1.symm, by omega, by omega⟩
    ·simp only [szS_app, szS, if_neg Bool.false_ne_true];omega
   ·rw [if_neg hc]
    exact happ _ h
theorem wntR_ok {N : Nat} {hb : Int → Int → Bool} {r : Int} (hr : 0 ≤ r ∧ r < (N : Int)) : ∀ (k : Nat) (n : Int) (out : List SpS), 1 ≤ n → n + k ≤ 1025 → (∀ s ∈ out, okSp N s) →
  (∀ s ∈ wntR hb r k n out, okSp N s) ∧ ∀ q j, Cov (wntR hb r k n out) q j ↔ Cov out q j ∨ q = r ∧ n ≤ j ∧ j < n + k ∧ hb r j = false
 | 0, n, out, _, _, h => ⟨h, fun q j => ⟨.inl, fun h9 => h9.elim id fun h8 => by omega⟩⟩
 | k + 1, n, out, h1, h2, h => by
  obtain ⟨g1, g2, g3⟩ := wnt1_ok (hb := hb) (n := n) hr (by omega) h
  obtain ⟨i1, i2⟩ := wntR_ok hr (hb := hb) k (n + 1) _ (by omega) (by omega) g1
  refine ⟨i1, fun q j => ?_⟩
  rw [wntR, i2, g2, or_assoc]
  refine or_congr Iff.rfl ⟨?_, ?_⟩
  ·rintro (h9|h9)
   ·exact ⟨h9.1, by omega, by omega, by rw [h9.2.1];exact h9.2.2⟩
   ·exact ⟨h9.1, by omega, by omega, h9.2.2.2⟩
  ·rintro ⟨h9, h8, h7, h6⟩
   by_cases hj : j = n
   ·exact .inl ⟨h9, hj, by rw [← hj];exact h6⟩
   ·exact .inr ⟨h9, by omega, by omega, h6⟩
theorem wntL_ok {N : Nat} {hb : Int → Int → Bool} : ∀ (l out : List SpS), (∀ s ∈ l, okSp N s) → (∀ s ∈ out, okSp N s) →
  (∀ s ∈ wntL hb l out, okSp N s) ∧ ∀ q j, Cov (wntL hb l out) q j ↔ Cov out q j ∨ Cov l q j ∧ hb q j = false
 | [], out, _, h => ⟨h, fun q j => ⟨.inl, fun h9 => h9.elim id fun ⟨⟨s, hs, _⟩, _⟩ => (nomatch hs)⟩⟩
 | s :: l, out, hl, h => by
  obtain ⟨k1, k2, k3, k4, k5⟩ := hl s List.mem_cons_self
  obtain ⟨g1, g2⟩ := wntR_ok (hb := hb) ⟨k1, k2⟩ (s.2.2 + 1 - s.2.1).toNat s.2.1 out k3 (by omega) h
  obtain ⟨i1, i2⟩ := wntL_ok (hb := hb) l _ (fun x hx => hl x (List.mem_cons_of_mem _ hx)) g1
  refine ⟨i1, fun q j => ?_⟩
  rw [wntL, i2, g2, or_assoc]
  refine or_congr Iff.rfl ⟨?_, ?_⟩
  ·rintro (⟨h9, h8, h7, h6⟩|⟨⟨x, hx, h9⟩, h8⟩)
   ·exact ⟨⟨s, List.mem_cons_self, h9.symm, h8, by omega⟩, by rw [h9];exact h6⟩
   ·exact ⟨⟨x, List.mem_cons_of_mem _ hx, h9⟩, h8⟩
  ·rintro ⟨⟨x, hx, h9, h8, h7⟩, h6⟩
   rcases List.mem_cons.1 hx with rfl|hx
   ·exact .inl ⟨h9.symm, h8, by omega, by rw [h9];exact h6⟩
   ·exact .inr ⟨⟨x, hx, h9, h8, h7⟩, h6⟩
theorem misF_ok {a b : List Int} (ha : ValC a) (hb : ValC b) (hab : a.length = b.length) : (∀ s ∈ misF a b, okSp a.length s) ∧ ∀ q j, Cov (misF a b) q j ↔ 0 ≤ q ∧ ∃ x y, a[q.toNat]? = some x ∧ b[q.toNat]? = some y ∧ x < j ∧ j ≤ y := by
 refine ⟨fun s hs => ?_, fun q j => ⟨?_, ?_⟩⟩
 ·obtain ⟨i, x, y, h1, h2, h3, h4, rfl⟩ := misN_mem.1 hs
  have a1 := ha.1 x (List.mem_of_getElem? h2)
  have a2 := hb.1 y (List.mem_of_getElem? h3)
  unfold rngK at a1 a2
  exact ⟨by simp only;omega, by simp only;omega, by simp only;omega, by simp only;omega, by simp only;omega⟩
 ·rintro ⟨s, hs, h9, h8, h7⟩
  obtain ⟨i, x, y, h1, h2, h3, h4, rfl⟩ := misN_mem.1 hs
  simp only at h9 h8 h7
  subst h9
  exact ⟨by omega, x, y, by rw [Int.toNat_natCast];exact h2, by rw [Int.toNat_natCast];exact h3, by omega, by omega⟩
 ·rintro ⟨h0', x, y, h1, h2, h3, h4⟩
  exact ⟨((q.toNat : Int), x + 1, y), misN_mem.2 ⟨q.toNat, x, y, (List.getElem?_eq_some_iff.1 h1).1, h1, h2, by omega, rfl⟩, by simp only;omega, by simp only;omega, by simp only;omega⟩
end Go.Proofs.YtajenkpjcbaadaaGreat
namespace Go.Proofs.YtajenkpjcbaadaaGreat
open Go Go.CF
set_option maxRecDepth 20000
noncomputable def offL (D l : List EvS) : List EvS := l.filter fun e => decide (e ∉ D)
theorem off_mem {D l : List EvS} {e : EvS} : e ∈ offL D l ↔ e ∈ l ∧ e ∉ D := by
 unfold offL;rw [List.mem_filter, decide_eq_true_iff]
abbrev heldE (p : PrS) : List EvS := p.H.map (·.2)
theorem sndL_eq {m : ModS} {ld : List Int} {l Da Db : List EvS} {a b : PrS} (hs : SuitS m ld l) (ha : InvP m ld l Da a) (hb : InvP m ld l Db b) (most : Int) (hmo : 1 ≤ most ∧ most ≤ 1024) :
  sndL (n0 l) most a b = (offL (Db ++ heldE b) a.s.evs).take most.toNat := by
 have hc := hs.e.2.2.1
 obtain ⟨e0, he0⟩ := get_of (l := l) (i := 0) hs.ne
 have hr := n0_rng hc (List.mem_of_getElem? he0)
 have va := clk_valC hc ha.buf.ext.sub hr
 have vb := clk_valC hc hb.buf.ext.sub hr
 have hla : (clkE (n0 l) Da).length = n0 l := clkE_len ..
 have hlb : (clkE (n0 l) Db).length = n0 l := clkE_len ..
 obtain ⟨m1, m2⟩ := misF_ok vb va (by rw [hla, hlb])
 obtain ⟨w1, w2⟩ := wntL_ok (hb := hldB b.H) (misF (clkE (n0 l) Db) (clkE (n0 l) Da)) [] m1 (fun s hs => (nomatch hs))
 rw [hlb] at w1
 unfold sndL
 rw [ha.sto.clock, hb.sto.clock, wantsF, if_pos ⟨va, by rw [hla, hlb]⟩]
 rw [serve_ok _ _ _ _ ⟨hmo, w1⟩]
 simp only
 congr 1
 unfold offL
 refine List.filter_congr fun e he => ?_
 have heD := ha.evs.mem he
 have hel := ha.buf.ext.sub e heD
 have hfe := (hc.2.2.1 e hel)
 have hrp := rep_rng hfe.1
 have hha := (clk_has hc ha.buf.ext.all hel).2 heD
 have hheld : hldB b.H e.rep e.num = true ↔ e ∈ heldE b := by
  unfold hldB
  rw [decide_eq_true_iff]
  constructor
  ·rintro ⟨q, hq, h1, h2⟩
   rw [← uniqP_of hc.2.1 _ (hb.buf.hin q hq).1 _ hel h1 h2]
   exact List.mem_map_of_mem hq
  ·intro h9
   obtain ⟨q, hq, h9⟩ := List.mem_map.1 h9
   exact ⟨q, hq, by rw [h9], by rw [h9]⟩
 unfold inSp
 refine decide_eq_decide.2 ?_
 have hcov := w2 e.rep e.num
 constructor
 ·intro h9 h8
  obtain ⟨s, hs1, hs2⟩ := h9
  have h7 : Cov (wntL (hldB b.H) (misF (clkE (n0 l) Db) (clkE (n0 l) Da)) []) e.rep e.num := ⟨s, hs1, hs2⟩
  rcases hcov.1 h7 with ⟨x, hx, _⟩|⟨h6, h5⟩
  ·cases hx
  ·rcases List.mem_append.1 h8 with h8|h8
   ·have hhb := (clk_has hc hb.buf.ext.all hel).2 h8
    obtain ⟨_, x, y, x1, y1, x2, y2⟩ := (m2 _ _).1 h6
    obtain ⟨_, _, _, z, z1, z2⟩ := hhb
    rw [x1] at z1;cases z1
    omega
   ·rw [hheld.2 h8] at h5;cases h5
 ·intro h9
  have h8 : Cov (wntL (hldB b.H) (misF (clkE (n0 l) Db) (clkE (n0 l) Da)) []) e.rep e.num := by
   refine hcov.2 (.inr ⟨(m2 _ _).2 ⟨hrp.1, ?_⟩, ?_⟩)
   ·obtain ⟨_, _, g3, y, y1, y2⟩ := hha
    obtain ⟨x, hx⟩ := get_of (l := clkE (n0 l) Db) (i := e.rep.toNat) (by rw [hlb, ← hla];exact (List.getElem?_eq_some_iff.1 y1).1)
    refine ⟨x, y, hx, y1, ?_, y2⟩
    rcases Int.lt_or_le x e.num with h7|h7
    ·exact h7
    ·exact absurd (List.mem_append_left _ ((clk_has hc hb.buf.ext.all hel).1 ⟨vb, hrp.1, g3, x, hx, h7⟩)) h9
   ·cases h7 : hldB b.H e.rep e.num with
    | false => rfl
    | true => exact absurd (List.mem_append_right _ (hheld.1 h7)) h9
  exact h8
/-! ### One direction -/
structure SndR (m : ModS) (ld : List Int) (l Da Db : List EvS) (a b : PrS) (most : Int) (X : List EvS) : Prop where
 zero : (sndF m (n0 l) most a b).1 = 0
 tak : TakR m ld l Db b (sndL (n0 l) most a b) X (sndF m (n0 l) most a b).2
theorem snd_ok {m : ModS} {ld : List Int} {l Da Db : List EvS} {a b : PrS} (hs : SuitS m ld l) (ha : InvP m ld l Da a) (hb : InvP m ld l Db b) (most : Int) (hmo : 1 ≤ most ∧ most ≤ 1024) : ∃ X, SndR m ld l Da Db a b most X := by
 have hsub : ∀ e ∈ sndL (n0 l) most a b, e ∈ l := fun e he => by
  rw [sndL_eq hs ha hb most hmo] at he
  exact ha.buf.ext.sub e (ha.evs.mem (off_mem.1 (List.mem_of_mem_take he)).1)
 obtain ⟨X, p', t1, t2⟩ := takeF_inv hs hsub hb
 exact ⟨X, by rw [sndF, t1], by rw [sndF, t1];exact t2⟩
noncomputable def unk (l D : List EvS) (p : PrS) : Nat := (offL (D ++ heldE p) l).length
theorem uniq_nodupE {l : List EvS} (h : Uniq l) : l.Nodup := (uniq_pair.1 h).imp fun {a b} h9 h8 => h9 (by rw [h8])
theorem sndL_nodup {m : ModS} {ld : List Int} {l Da Db : List EvS} {a b : PrS} (hs : SuitS m ld l) (ha : InvP m ld l Da a) (hb : InvP m ld l Db b) (most : Int) (hmo : 1 ≤ most ∧ most ≤ 1024) : (sndL (n0 l) most a b).Nodup := by
 rw [sndL_eq hs ha hb most hmo]
 exact ((extO_nodup ha.buf.ext).sublist ha.evs |>.filter _).sublist (List.take_sublist _ _)
theorem snd_unk {m : ModS} {ld : List Int} {l Da Db X : List EvS} {a b : PrS} (hs : SuitS m ld l) (ha : InvP m ld l Da a) (hb : InvP m ld l Db b) (most : Int) (hmo : 1 ≤ most ∧ most ≤ 1024) (h : SndR m ld l Da Db a b most X) :
  unk l (Db ++ X) (sndF m (n0 l) most a b).2 + (sndL (n0 l) most a b).length ≤ unk l Db b := by
 have hc := hs.e.2.2.1
 have hnd := sndL_nodup hs ha hb most hmo
 have hL := sndL_eq hs ha hb most hmo
 unfold unk
 rw [← List.length_append]
 refine List.Nodup.length_le_of_subset (List.nodup_append.2 ⟨(uniq_nodupE hc.2.1).filter _, hnd, fun x hx y hy h9 => ?_⟩) fun x hx => ?_
 ·subst h9
  refine (off_mem.1 hx).2 ?_
  rcases h.tak.got x hy with g|⟨q, hq, rfl⟩
  ·exact List.mem_append_left _ g
  ·exact List.mem_append_right _ (List.mem_map_of_mem hq)
 ·rcases List.mem_append.1 hx with hx|hx
  ·obtain ⟨h1, h2⟩ := off_mem.1 hx
   refine off_mem.2 ⟨h1, fun h9 => h2 ?_⟩
   rcases List.mem_append.1 h9 with h9|h9
   ·exact List.mem_append_left _ (List.mem_append_left _ h9)
   ·obtain ⟨q, hq, rfl⟩ := List.mem_map.1 h9
    rcases h.tak.keep q hq with g|g
    ·exact List.mem_append_left _ g
    ·exact List.mem_append_right _ (List.mem_map_of_mem g)
  ·rw [hL] at hx
   obtain ⟨h1, h2⟩ := off_mem.1 (List.mem_of_mem_take hx)
   exact off_mem.2 ⟨ha.buf.ext.sub x (ha.evs.mem h1), h2⟩
def Covers (Da Db : List EvS) (a : PrS) : Prop := ∀ e ∈ Da, e ∉ Db → e ∈ a.s.evs
theorem snd_nil {m : ModS} {ld : List Int} {l Da Db : List EvS} {a b : PrS} (hs : SuitS m ld l) (ha : InvP m ld l Da a) (hb : InvP m ld l Db b) (most : Int) (hmo : 1 ≤ most ∧ most ≤ 1024) (hcv : Covers Da Db a) (h : sndL (n0 l) most a b = []) : ∀ e ∈ Da, e ∈ Db := by
 refine all_here hs hb Da ha.buf.ext fun e he => ?_
 rw [sndL_eq hs ha hb most hmo] at h
 have hz : offL (Db ++ heldE b) a.s.evs = [] := by
  rcases List.take_eq_nil_iff.1 h with h9|h9
  ·omega
  ·exact h9
 by_cases h1 : e ∈ Db
 ·exact .inl h1
 ·by_cases h2 : e ∈ heldE b
  ·obtain ⟨q, hq, h9⟩ := List.mem_map.1 h2
   exact .inr ⟨q, hq, h9⟩
  ·have : e ∈ offL (Db ++ heldE b) a.s.evs := off_mem.2 ⟨hcv e he h1, fun h9 => (List.mem_append.1 h9).elim h1 h2⟩
   rw [hz] at this;cases this
theorem take_nil {m : ModS} {p : PrS} (h : p.err = 0) : takeF m [] p = (0, p, []) := by rw [takeF, if_neg (fun h9 => h9 h)];rfl
theorem snd_id {m : ModS} {N : Nat} {most : Int} {a b : PrS} (hb : b.err = 0) (h : sndL N most a b = []) : sndF m N most a b = (0, b) := by rw [sndF, h, take_nil hb]
structure RecR (m : ModS) (ld : List Int) (l Da Db : List EvS) (a b : PrS) (Xa Xb : List EvS) (a' b' : PrS) : Prop where
 ia : InvP m ld l (Da ++ Xa) a'
 ib : InvP m ld l (Db ++ Xb) b'
 ea : a'.s.evs = a.s.evs ++ Xa
 eb : b'.s.evs = b.s.evs ++ Xb
 ba : a'.s.base = a.s.base
 bb : b'.s.base = b.s.base
 same : ∀ e, e ∈ Da ++ Xa ↔ e ∈ Db ++ Xb
 new : ∀ e ∈ Da ++ Xa, e ∈ Da ∨ e ∈ Db ∨ e ∈ heldE a ∨ e ∈ heldE b
theorem covers_app {Da Db X : List EvS} {a a' : PrS} (h : Covers Da Db a) (he : a'.s.evs = a.s.evs ++ X) (Y : List EvS) : Covers (Da ++ X) (Db ++ Y) a' := fun e h1 h2 => by
 rw [he]
 rcases List.mem_append.1 h1 with h1|h1
 ·exact List.mem_append_left _ (h e h1 fun h9 => h2 (List.mem_append_left _ h9))
 ·exact List.mem_append_right _ h1
theorem rec_ex {m : ModS} {ld : List Int} {l : List EvS} (hs : SuitS m ld l) (most : Int) (hmo : 1 ≤ most ∧ most ≤ 1024) : ∀ (μ : Nat) (Da Db : List EvS) (a b : PrS), unk l Da a + unk l Db b ≤ μ → InvP m ld l Da a → InvP m ld l Db b → Covers Da Db a → Covers Db Da b →
  ∃ R S a' b' Xa Xb, RecK m (n0 l) 200 most a b R S a' b' ∧ R ≤ μ + 1 ∧ S ≤ μ ∧ RecR m ld l Da Db a b Xa Xb a' b' := by
 intro μ
 induction μ using Nat.strongRecOn with
 | ind μ ih =>
  intro Da Db a b hμ ha hb ca cb
  obtain ⟨X, hX⟩ := snd_ok hs ha hb most hmo
  obtain ⟨b1, hb1⟩ : ∃ b1, b1 = (sndF m (n0 l) most a b).2 := ⟨_, rfl⟩
  have hib := hX.tak.inv
  rw [← hb1] at hib
  obtain ⟨Y, hY⟩ := snd_ok hs hib ha most hmo
  obtain ⟨a1, ha1⟩ : ∃ a1, a1 = (sndF m (n0 l) most b1 a).2 := ⟨_, rfl⟩
  have hia := hY.tak.inv
  rw [← ha1] at hia
  have u1 := snd_unk hs ha hb most hmo hX
  have u2 := snd_unk hs hib ha most hmo hY
  rw [← hb1] at u1
  rw [← ha1] at u2
  have fa := ha.fine hs;have fb := hb.fine hs;have fb1 := hib.fine hs
  by_cases hz : (sndL (n0 l) most a b).length + (sndL (n0 l) most b1 a).length = 0
  ·have z1 : sndL (n0 l) most a b = [] := List.eq_nil_of_length_eq_zero (by omega)
   have z2 : sndL (n0 l) most b1 a = [] := List.eq_nil_of_length_eq_zero (by omega)
   have e1 : b1 = b := by rw [hb1, snd_id hb.err z1]
   have e2 : a1 = a := by rw [ha1, snd_id ha.err z2]
   have g1 := snd_nil hs ha hb most hmo ca z1
   rw [e1] at z2
   have g2 := snd_nil hs hb ha most hmo cb z2
   have hk : RecK m (n0 l) 200 most a b 1 0 (sndF m (n0 l) most (sndF m (n0 l) most a b).2 a).2 (sndF m (n0 l) most a b).2 :=
    .last fa fb (by rw [← hb1];exact fb1) hX.zero (by rw [← hb1];exact hY.zero) z1 (by rw [← hb1, e1];exact z2)
   rw [← hb1, ← ha1, e1, e2] at hk
   exact ⟨1, 0, a, b, [], [], hk, by omega, by omega, ⟨by rw [List.append_nil];exact ha, by rw [List.append_nil];exact hb, by simp, by simp, rfl, rfl, fun e => by rw [List.append_nil, List.append_nil];exact ⟨g1 e, g2 e⟩, fun e he => by rw [List.append_nil] at he;exact .inl he⟩⟩
  ·have cb1 : Covers (Db ++ X) (Da ++ Y) b1 := covers_app cb (by rw [hb1];exact hX.tak.evs) Y
   have ca1 : Covers (Da ++ Y) (Db ++ X) a1 := covers_app ca (by rw [ha1];exact hY.tak.evs) X
   obtain ⟨R, S, a', b', Xa, Xb, k1, k2, k3, k4⟩ := ih (unk l (Da ++ Y) a1 + unk l (Db ++ X) b1) (by omega) (Da ++ Y) (Db ++ X) a1 b1 (Nat.le_refl _) hia hib ca1 cb1
   have hk : RecK m (n0 l) 200 most a b (R + 1) ((sndL (n0 l) most a b).length + (sndL (n0 l) most (sndF m (n0 l) most a b).2 a).length + S) a' b' :=
    .step fa fb (by rw [← hb1];exact fb1) hX.zero (by rw [← hb1];exact hY.zero) (by rw [← hb1];omega) (by rw [← hb1, ← ha1];exact k1)
   rw [← hb1] at hk
   have oX : ∀ e ∈ X, e ∈ Da ∨ e ∈ heldE b := fun e he => by
    rcases hX.tak.out e he with g|⟨q, hq, rfl⟩
    ·rw [sndL_eq hs ha hb most hmo] at g
     exact .inl (ha.evs.mem (off_mem.1 (List.mem_of_mem_take g)).1)
    ·exact .inr (List.mem_map_of_mem hq)
   have oY : ∀ e ∈ Y, e ∈ Db ++ X ∨ e ∈ heldE a := fun e he => by
    rcases hY.tak.out e he with g|⟨q, hq, rfl⟩
    ·rw [sndL_eq hs hib ha most hmo] at g
     exact .inl (hib.evs.mem (off_mem.1 (List.mem_of_mem_take g)).1)
    ·exact .inr (List.mem_map_of_mem hq)
   have hha : ∀ e ∈ heldE a1, e ∈ heldE a ∨ e ∈ Db ++ X := fun e he => by
    obtain ⟨q, hq, rfl⟩ := List.mem_map.1 he
    rw [ha1] at hq
    rcases hY.tak.mem q hq with g|g
    ·exact .inl (List.mem_map_of_mem g)
    ·rw [sndL_eq hs hib ha most hmo] at g
     exact .inr (hib.evs.mem (off_mem.1 (List.mem_of_mem_take g)).1)
   have hhb : ∀ e ∈ heldE b1, e ∈ heldE b ∨ e ∈ Da := fun e he => by
    obtain ⟨q, hq, rfl⟩ := List.mem_map.1 he
    rw [hb1] at hq
    rcases hX.tak.mem q hq with g|g
    ·exact .inl (List.mem_map_of_mem g)
    ·rw [sndL_eq hs ha hb most hmo] at g
     exact .inr (ha.evs.mem (off_mem.1 (List.mem_of_mem_take g)).1)
   have nX : ∀ e ∈ Db ++ X, e ∈ Da ∨ e ∈ Db ∨ e ∈ heldE a ∨ e ∈ heldE b := fun e he => by
    rcases List.mem_append.1 he with g|g
    ·exact .inr (.inl g)
    ·rcases oX e g with g|g
     ·exact .inl g
     ·exact .inr (.inr (.inr g))
   have nY : ∀ e ∈ Da ++ Y, e ∈ Da ∨ e ∈ Db ∨ e ∈ heldE a ∨ e ∈ heldE b := fun e he => by
    rcases List.mem_append.1 he with g|g
    ·exact .inl g
    ·rcases oY e g with g|g
     ·exact nX e g
     ·exact .inr (.inr (.inl g))
   refine ⟨R + 1, _, a', b', Y ++ Xa, X ++ Xb, hk, by omega, by omega, ⟨by rw [← List.append_assoc];exact k4.ia, by rw [← List.append_assoc];exact k4.ib, ?_, ?_, by rw [k4.ba, ha1, hY.tak.base], by rw [k4.bb, hb1, hX.tak.base], fun e => by rw [← List.append_assoc, ← List.append_assoc];exact k4.same e, fun e he => ?_⟩⟩
   ·rw [k4.ea, ha1, hY.tak.evs, List.append_assoc]
   ·rw [k4.eb, hb1, hX.tak.evs, List.append_assoc]
   ·rw [← List.append_assoc] at he
    rcases k4.new e he with g|g|g|g
    ·exact nY e g
    ·exact nX e g
    ·rcases hha e g with g|g
     ·exact .inr (.inr (.inl g))
     ·exact nX e g
    ·rcases hhb e g with g|g
     ·exact .inr (.inr (.inr g))
     ·exact .inl g
end Go.Proofs.YtajenkpjcbaadaaGreat
namespace Go.Proofs.YtajenkpjcbaadaaGreat
open Go Go.CF
set_option maxRecDepth 20000
theorem ext_prefix {l A B : List EvS} (h : ExtO l (A ++ B)) : ExtO l A := by
 refine ⟨fun e he => h.sub e (List.mem_append_left _ he), fun i e he => ?_⟩
 have hi := (List.getElem?_eq_some_iff.1 he).1
 have := h.nxt i e (by rw [List.getElem?_append_left hi];exact he)
 rwa [List.take_append_of_le_length (by omega)] at this
theorem off_app {D a b : List EvS} : offL D (a ++ b) = offL D a ++ offL D b := List.filter_append ..
theorem ext_off {l Da Db : List EvS} (ha : ExtO l Da) (hb : ExtO l Db) : ∀ i, i ≤ Da.length → ExtO l (Db ++ offL Db (Da.take i)) := by
 intro i
 induction i with
 | zero => intro _;rw [List.take_zero];simpa [offL] using hb
 | succ i ih =>
  intro hi
  obtain ⟨e, he⟩ := get_of (l := Da) (i := i) (by omega)
  have h1 := ih (by omega)
  obtain ⟨n1, n2⟩ := ha.nxt i e he
  rw [List.take_add_one, he, off_app]
  by_cases hd : e ∈ Db
  ·rw [show offL Db (some e).toList = [] by simp [offL, hd], List.append_nil]
   exact h1
  ·rw [show offL Db (some e).toList = [e] by simp [offL, hd], ← List.append_assoc]
   refine h1.snoc (ha.sub e (List.mem_of_getElem? he)) (fun h9 => ?_) fun d hd2 hh => ?_
   ·rcases List.mem_append.1 h9 with h9|h9
    ·exact hd h9
    ·exact n1 (off_mem.1 h9).1
   ·have := n2 d hd2 hh
    by_cases hdd : d ∈ Db
    ·exact List.mem_append_left _ hdd
    ·exact List.mem_append_right _ (off_mem.2 ⟨this, hdd⟩)
theorem off_sub {evl Da Db : List EvS} (hs : evl.Sublist Da) (hn : Da.Nodup) (h : ∀ e ∈ Da, e ∉ Db → e ∈ evl) : offL Db evl = offL Db Da := by
 refine (hs.filter _).eq_of_length_le ?_
 exact List.Nodup.length_le_of_subset (hn.filter _) fun e he => by
  obtain ⟨h1, h2⟩ := off_mem.1 he
  exact off_mem.2 ⟨h e h1 h2, h2⟩
structure Free (m : ModS) (ld : List Int) (l Da Db : List EvS) (a b : PrS) : Prop where
 ia : InvP m ld l Da a
 ib : InvP m ld l Db b
 na : a.H = []
 nb : b.H = []
 ca : Covers Da Db a
 cb : Covers Db Da b
theorem Free.symm {m : ModS} {ld : List Int} {l Da Db : List EvS} {a b : PrS} (h : Free m ld l Da Db a b) : Free m ld l Db Da b a := ⟨h.ib, h.ia, h.nb, h.na, h.cb, h.ca⟩
theorem free_sndL {m : ModS} {ld : List Int} {l Da Db : List EvS} {a b : PrS} (hs : SuitS m ld l) (h : Free m ld l Da Db a b) (most : Int) (hmo : 1 ≤ most ∧ most ≤ 1024) : sndL (n0 l) most a b = (offL Db Da).take most.toNat := by
 rw [sndL_eq hs h.ia h.ib most hmo, heldE, h.nb, List.map_nil, List.append_nil, off_sub h.ia.evs (extO_nodup h.ia.buf.ext) h.ca]
theorem free_snd {m : ModS} {ld : List Int} {l Da Db X : List EvS} {a b : PrS} (hs : SuitS m ld l) (h : Free m ld l Da Db a b) (most : Int) (hmo : 1 ≤ most ∧ most ≤ 1024) (hX : SndR m ld l Da Db a b most X) :
  Free m ld l Da (Db ++ X) a (sndF m (n0 l) most a b).2 ∧ (∀ e, e ∈ X ↔ e ∈ (offL Db Da).take most.toNat) ∧ X.length = min most.toNat (offL Db Da).length ∧ (offL (Db ++ X) Da).length + X.length = (offL Db Da).length ∧ (offL Da (Db ++ X)).length = (offL Da Db).length := by
 have hL := free_sndL hs h most hmo
 obtain ⟨L, hLd⟩ : ∃ L, L = (offL Db Da).take most.toNat := ⟨_, rfl⟩
 rw [← hLd] at hL ⊢
 have hext : ExtO l (Db ++ L) := by
  have := ext_off h.ia.buf.ext h.ib.buf.ext Da.length (Nat.le_refl _)
  rw [List.take_length, ← List.take_append_drop most.toNat (offL Db Da), ← hLd, ← List.append_assoc] at this
  exact ext_prefix this
 have hgot : ∀ e ∈ Db ++ L, e ∈ Db ++ X := all_here hs hX.tak.inv (Db ++ L) hext fun e he => by
  rcases List.mem_append.1 he with he|he
  ·exact .inl (List.mem_append_left _ he)
  ·exact hX.tak.got e (by rw [hL];exact he)
 have hnd := extO_nodup hX.tak.inv.buf.ext
 have hndL := extO_nodup hext
 have hXL : ∀ e ∈ X, e ∈ L := fun e he => by
  rcases hX.tak.out e he with g|⟨q, hq, _⟩
  ·rw [hL] at g;exact g
  ·rw [h.nb] at hq;cases hq
 have hLX : ∀ e ∈ L, e ∈ X := fun e he => by
  rcases List.mem_append.1 (hgot e (List.mem_append_right _ he)) with g|g
  ·exact absurd rfl ((List.nodup_append.1 hndL).2.2 e g e he)
  ·exact g
 have hlen : X.length = L.length := Nat.le_antisymm ((List.nodup_append.1 hnd).2.1.length_le_of_subset hXL) ((List.nodup_append.1 hndL).2.1.length_le_of_subset hLX)
 have hLo : ∀ e ∈ X, e ∈ Da ∧ e ∉ Db := fun e he => off_mem.1 (List.mem_of_mem_take (by rw [hLd] at hXL;exact hXL e he))
 refine ⟨⟨h.ia, hX.tak.inv, h.na, ?_, fun e h1 h2 => h.ca e h1 fun h9 => h2 (List.mem_append_left _ h9), fun e h1 h2 => ?_⟩, fun e => ⟨hXL e, hLX e⟩, by rw [hlen, hLd, List.length_take], ?_, ?_⟩
 ·refine List.eq_nil_iff_forall_not_mem.2 fun q hq => ?_
  rcases hX.tak.mem q hq with g|g
  ·rw [h.nb] at g;cases g
  ·rw [hL] at g
   exact (hX.tak.inv.buf.hin q hq).2 (hgot _ (List.mem_append_right _ g))
 ·rw [hX.tak.evs]
  rcases List.mem_append.1 h1 with h1|h1
  ·exact List.mem_append_left _ (h.cb e h1 h2)
  ·exact List.mem_append_right _ h1
 ·have hnDa := extO_nodup h.ia.buf.ext
  rw [← List.length_append]
  refine Nat.le_antisymm (List.Nodup.length_le_of_subset (List.nodup_append.2 ⟨hnDa.filter _, (List.nodup_append.1 hnd).2.1, fun x hx y hy h9 => ?_⟩) fun x hx => ?_) (List.Nodup.length_le_of_subset (hnDa.filter _) fun x hx => ?_)
  ·subst h9
   exact (off_mem.1 hx).2 (List.mem_append_right _ hy)
  ·rcases List.mem_append.1 hx with hx|hx
   ·obtain ⟨h1, h2⟩ := off_mem.1 hx
    exact off_mem.2 ⟨h1, fun h9 => h2 (List.mem_append_left _ h9)⟩
   ·exact off_mem.2 (hLo x hx)
  ·obtain ⟨h1, h2⟩ := off_mem.1 hx
   by_cases hxX : x ∈ X
   ·exact List.mem_append_right _ hxX
   ·exact List.mem_append_left _ (off_mem.2 ⟨h1, fun h9 => (List.mem_append.1 h9).elim h2 hxX⟩)
 ·rw [off_app, show offL Da X = [] from List.filter_eq_nil_iff.2 fun e he => by simp [(hLo e he).1], List.append_nil]
theorem rounds_step (k x y : Nat) (hk : 1 ≤ k) (h : 0 < min k x + min k y) : (max x y + k - 1) / k = 1 + (max (x - min k x) (y - min k y) + k - 1) / k := by
 rcases Nat.lt_or_ge (max x y) k with h1|h1
 ·rw [show max (x - min k x) (y - min k y) = 0 by omega, show (0 + k - 1) / k = 0 from Nat.div_eq_of_lt (by omega)]
  rw [show max x y + k - 1 = (max x y - 1) + k by omega, Nat.add_div_right _ (by omega), Nat.div_eq_of_lt (by omega)]
 ·rw [show max (x - min k x) (y - min k y) = max x y - k by omega]
  rw [show max x y + k - 1 = (max x y - k + k - 1) + k by omega, Nat.add_div_right _ (by omega), Nat.add_comm]
theorem rec_count {m : ModS} {ld : List Int} {l : List EvS} (hs : SuitS m ld l) (most : Int) (hmo : 1 ≤ most ∧ most ≤ 1024) {a b a' b' : PrS} {R S : Nat} (h : RecK m (n0 l) 200 most a b R S a' b') : ∀ Da Db, Free m ld l Da Db a b →
  R = 1 + (max (offL Da Db).length (offL Db Da).length + most.toNat - 1) / most.toNat ∧ S = (offL Da Db).length + (offL Db Da).length ∧ a'.H = [] ∧ b'.H = [] := by
 have hk : 1 ≤ most.toNat := by omega
 induction h with
 | @last a b _ _ _ _ _ z1 z2 =>
  intro Da Db hF
  have e1 : (sndF m (n0 l) most a b).2 = b := by rw [snd_id hF.ib.err z1]
  rw [e1] at z2 ⊢
  have e2 : (sndF m (n0 l) most b a).2 = a := by rw [snd_id hF.ia.err z2]
  rw [e2]
  rw [free_sndL hs hF most hmo] at z1
  rw [free_sndL hs hF.symm most hmo] at z2
  have y1 : offL Db Da = [] := (List.take_eq_nil_iff.1 z1).elim (fun h9 => by omega) id
  have y2 : offL Da Db = [] := (List.take_eq_nil_iff.1 z2).elim (fun h9 => by omega) id
  rw [y1, y2]
  refine ⟨?_, rfl, hF.na, hF.nb⟩
  rw [show (max ([] : List EvS).length ([] : List EvS).length + most.toNat - 1) / most.toNat = 0 from Nat.div_eq_of_lt (by simp;omega)]
 | @step a b a' b' r s _ _ _ _ _ hp _ ih =>
  intro Da Db hF
  obtain ⟨X, hX⟩ := snd_ok hs hF.ia hF.ib most hmo
  obtain ⟨f1, f2, f3, f4, f5⟩ := free_snd hs hF most hmo hX
  obtain ⟨Y, hY⟩ := snd_ok hs f1.ib f1.ia most hmo
  obtain ⟨g1, g2, g3, g4, g5⟩ := free_snd hs f1.symm most hmo hY
  obtain ⟨i1, i2, i3, i4⟩ := ih _ _ g1.symm
  have l1 : (sndL (n0 l) most a b).length = X.length := by rw [free_sndL hs hF most hmo, List.length_take, f3]
  have l2 : (sndL (n0 l) most (sndF m (n0 l) most a b).2 a).length = Y.length := by rw [free_sndL hs f1.symm most hmo, List.length_take, g3]
  rw [l1, l2] at hp ⊢
  have hx := rounds_step most.toNat (offL Da Db).length (offL Db Da).length hk (by omega)
  refine ⟨?_, by omega, i3, i4⟩
  rw [i1, hx]
  have a1 : (offL (Da ++ Y) (Db ++ X)).length = (offL Da Db).length - min most.toNat (offL Da Db).length := by omega
  have a2 : (offL (Db ++ X) (Da ++ Y)).length = (offL Db Da).length - min most.toNat (offL Db Da).length := by omega
  rw [a1, a2]
  omega
theorem tak_all {m : ModS} {ld : List Int} {l D l' X S : List EvS} {p p' : PrS} (hs : SuitS m ld l) (hH : p.H = []) (h : TakR m ld l D p l' X p') (hS : ExtO l (D ++ S)) (hl : ∀ e, e ∈ S ↔ e ∈ l') : (∀ e, e ∈ X ↔ e ∈ l') ∧ X.length = S.length ∧ p'.H = [] := by
 have hgot : ∀ e ∈ D ++ S, e ∈ D ++ X := all_here hs h.inv (D ++ S) hS fun e he => by
  rcases List.mem_append.1 he with he|he
  ·exact .inl (List.mem_append_left _ he)
  ·exact h.got e ((hl e).1 he)
 have hnd := extO_nodup h.inv.buf.ext
 have hndS := extO_nodup hS
 have hXl : ∀ e ∈ X, e ∈ l' := fun e he => by
  rcases h.out e he with g|⟨q, hq, _⟩
  ·exact g
  ·rw [hH] at hq;cases hq
 have hSX : ∀ e ∈ S, e ∈ X := fun e he => by
  rcases List.mem_append.1 (hgot e (List.mem_append_right _ he)) with g|g
  ·exact absurd rfl ((List.nodup_append.1 hndS).2.2 e g e he)
  ·exact g
 refine ⟨fun e => ⟨hXl e, fun h9 => hSX e ((hl e).2 h9)⟩, Nat.le_antisymm ((List.nodup_append.1 hnd).2.1.length_le_of_subset fun e he => (hl e).2 (hXl e he)) ((List.nodup_append.1 hndS).2.1.length_le_of_subset hSX), ?_⟩
 refine List.eq_nil_iff_forall_not_mem.2 fun q hq => ?_
 rcases h.mem q hq with g|g
 ·rw [hH] at g;cases g
 ·exact (h.inv.buf.hin q hq).2 (hgot _ (List.mem_append_right _ ((hl _).2 g)))
end Go.Proofs.YtajenkpjcbaadaaGreat
namespace Go.Proofs.YtajenkpjcbaadaaGreat
open Go Go.CF
set_option maxRecDepth 20000
noncomputable instance (a b : List Int) : Decidable (Ins a b) := Classical.propDecidable _
end Go.Proofs.YtajenkpjcbaadaaGreat
namespace Go.Proofs.YtajenkpjcbaadaaGreat
open Go Go.CF
set_option maxRecDepth 20000
def EvK (l : List EvS) (k : List Int) : Prop := ∀ (i : Nat) x, k[i]? = some x → 1 ≤ x → ∃ e ∈ l, e.rep.toNat = i ∧ 0 ≤ e.rep ∧ e.num = x
theorem ins_join {a b : List Int} (h : a.length = b.length) : Ins a (joinC a b) ∧ Ins b (joinC a b) := by
 constructor
 ·intro i x y hx hy
  obtain ⟨p, q, h1, h2, rfl⟩ := (zipC_at h).1 hy
  rw [hx] at h1;cases h1;omega
 ·intro i x y hx hy
  obtain ⟨p, q, h1, h2, rfl⟩ := (zipC_at h).1 hy
  rw [hx] at h2;cases h2;omega
theorem ins_trans {a b c : List Int} (hab : Ins a b) (hbc : Ins b c) (h : a.length = b.length) : Ins a c := fun i x z hx hz => by
 obtain ⟨y, hy⟩ := get_of (l := b) (i := i) (by rw [← h];exact (List.getElem?_eq_some_iff.1 hx).1)
 have := hab i x y hx hy
 have := hbc i y z hy hz
 omega
theorem Part.join {l : List EvS} {ac bc : List Int} (hc : ClosedE l) (ha : Part l ac) (hb : Part l bc) : Part l (joinC ac bc) := by
 have hl : ac.length = bc.length := ha.len.trans hb.len.symm
 obtain ⟨i1, i2⟩ := ins_join hl
 refine ⟨joinC_val ha.val hb.val hl, by rw [joinC_len hl];exact ha.len, fun e he d hd hh => ?_, fun e he => ?_⟩
 ·obtain ⟨h1, h2⟩ := mem_cut.1 he
  rcases (has_join ha.val hb.val hl _ _).1 h2 with h2|h2
  ·exact mem_cut.2 ⟨hd, (has_join ha.val hb.val hl _ _).2 (.inl (mem_cut.1 (ha.cls e (mem_cut.2 ⟨h1, h2⟩) d hd hh)).2)⟩
  ·exact mem_cut.2 ⟨hd, (has_join ha.val hb.val hl _ _).2 (.inr (mem_cut.1 (hb.cls e (mem_cut.2 ⟨h1, h2⟩) d hd hh)).2)⟩
 ·obtain ⟨h1, h2⟩ := mem_cut.1 he
  have hp := (hc.2.2.1 e h1).2
  rcases (has_join ha.val hb.val hl _ _).1 h2 with h2|h2
  ·exact ins_trans (ha.sub e (mem_cut.2 ⟨h1, h2⟩)) i1 (by rw [hp, ha.len])
  ·exact ins_trans (hb.sub e (mem_cut.2 ⟨h1, h2⟩)) i2 (by rw [hp, hb.len])
theorem part_ext {l : List EvS} {k : List Int} (hc : ClosedE l) (hk : Part l k) : ∃ S, ExtO l S ∧ S.Perm (cutL l k) := by
 by_cases h : cutL l k = []
 ·exact ⟨[], ExtO.nil l, by rw [h]⟩
 ·obtain ⟨S, _, hS, hp⟩ := ext_nil_ok (part_closed hc hk h) [] (fun x hx => (nomatch hx))
  refine ⟨S, ⟨fun e he => (mem_cut.1 (hS.sub e he)).1, fun i e he => ⟨(hS.nxt i e he).1, fun d hd hh => (hS.nxt i e he).2 d (hk.cls e (hS.sub e (List.mem_of_getElem? he)) d hd hh) hh⟩⟩, hp⟩
end Go.Proofs.YtajenkpjcbaadaaGreat
namespace Go.Proofs.YtajenkpjcbaadaaGreat
open Go Go.CF
set_option maxRecDepth 20000
theorem ins_of {l D : List EvS} {k : List Int} (hc : ClosedE l) (hD : ExtO l D) (hv : ValC k) (hl : k.length = n0 l) (he : EvK l k) (h : ∀ e ∈ l, HasC k e.rep e.num → e ∈ D) : Ins k (clkE (n0 l) D) := fun i x y hx hy => by
 have hi := (List.getElem?_eq_some_iff.1 hx).1
 obtain ⟨z, g1, g2, g3⟩ := clkE_at hc hD.sub (q := i) (by omega)
 rw [hy] at g1;cases g1
 by_cases h1 : 1 ≤ x
 ·obtain ⟨e, hel, e1, e2, e3⟩ := he i x hx h1
  exact (g3 x h1).2 ⟨e, h e hel ⟨hv, e2, by omega, x, by rw [e1];exact hx, by omega⟩, e1, by omega⟩
 ·omega
end Go.Proofs.YtajenkpjcbaadaaGreat
namespace Go.Proofs.YtajenkpjcbaadaaGreat
open Go Go.CF
set_option maxRecDepth 20000
structure GotE (m : ModS) (ld : List Int) (l : List EvS) (k : List Int) (p : PrS) : Prop where
 inv : InvP m ld l p.s.evs p
 nil : p.H = []
 mem : ∀ e, e ∈ p.s.evs ↔ e ∈ cutL l k
theorem got_part {m : ModS} {ld : List Int} {l l' : List EvS} {k : List Int} (hs : SuitS m ld l) (hk : Part l k) (hl' : l'.Perm (cutL l k)) :
  ∃ X p', takeF m l' (newP m (n0 l) ld) = (0, p', X) ∧ X.length = l'.length ∧ GotE m ld l k p' := by
 have hc := hs.e.2.2.1
 obtain ⟨X, p', h1, h2⟩ := takeF_inv (l' := l') hs (fun e he => (mem_cut.1 (hl'.mem_iff.1 he)).1) (newP_inv hs)
 obtain ⟨S, hS, hp⟩ := part_ext hc hk
 obtain ⟨t1, t2, t3⟩ := tak_all (S := S) hs rfl h2 (by rw [List.nil_append];exact hS) fun e => by rw [hp.mem_iff, hl'.mem_iff]
 have he : p'.s.evs = X := by rw [h2.evs];rfl
 refine ⟨X, p', h1, by rw [t2, hp.length_eq, hl'.length_eq], ⟨?_, t3, fun e => by rw [he, t1, hl'.mem_iff]⟩⟩
 have := h2.inv
 rw [List.nil_append] at this
 rw [he];exact this
theorem GotE.perm {m : ModS} {ld : List Int} {l : List EvS} {k : List Int} {p : PrS} (hs : SuitS m ld l) (h : GotE m ld l k p) : p.s.evs.Perm (cutL l k) :=
 (List.perm_ext_iff_of_nodup (extO_nodup h.inv.buf.ext) ((uniq_nodupE hs.e.2.2.1.2.1).filter _)).2 h.mem
theorem off_len {A B U : List EvS} (ha : A.Nodup) (hb : B.Nodup) (hu : U.Nodup) (h : ∀ e, e ∈ U ↔ e ∈ A ∨ e ∈ B) : (offL A B).length + A.length = U.length := by
 have hp : (A ++ offL A B).Perm U := by
  refine (List.perm_ext_iff_of_nodup (List.nodup_append.2 ⟨ha, hb.filter _, fun x hx y hy hxy => ?_⟩) hu).2 fun e => ?_
  ·subst hxy;exact (off_mem.1 hy).2 hx
  ·show e ∈ A ++ offL A B ↔ e ∈ U
   rw [List.mem_append, off_mem, h]
   constructor
   ·rintro (h9|h9)
    ·exact .inl h9
    ·exact .inr h9.1
   ·rintro (h9|h9)
    ·exact .inl h9
    ·by_cases hA : e ∈ A
     ·exact .inl hA
     ·exact .inr ⟨h9, hA⟩
 have := hp.length_eq
 rw [List.length_append] at this
 omega
end Go.Proofs.YtajenkpjcbaadaaGreat
namespace Go.Proofs.YtajenkpjcbaadaaGreat
open Go Go.CF
set_option maxRecDepth 20000
theorem bef_p (a b : EvS) : CallP Tryz.prog 153 [evA' a, evA' b] (bl (decide (HasC b.past a.rep a.num))) := by
 have g1 := name_p a
 have g2 := hasC_p b.past a.rep a.num
 refine CallA.of pg ord153 Tryz.func153 rfl Tryz.ntmps153 Tryz.results153 rfl fun h0 G0 O0 => ?_
 repeat' (first|refine Sp.h ?_|refine Lk.r rfl ?_|refine Rf.mk rfl ?_|refine OpK.r rfl ?_|refine All.mk fun _=>?_|refine xT ?_|refine Ch.l ⟨rfl, rfl⟩ ?_|refine xN ?_|refine xD ?_|(apply Cl.p (g1);focus (repeat' constructor);done)|(apply Cl.p (g2);focus (repeat' constructor);done))
 exact Fin.p rfl rfl
theorem seen1_p (k : Int) (w x : WrS) : CallP Tryz.prog 152 [evW' x, .ad [it k] 0, .ad (wrC w) 0] (bl (decide (x.2.1 = k ∧ HasC x.1.past w.1.rep w.1.num))) := by
 have h := bef_p w.1 x.1
 obtain ⟨e, u1, u2, u3⟩ := w
 obtain ⟨f, v1, v2, v3⟩ := x
 simp only at h ⊢
 refine CallA.of pg ord152 Tryz.func152 rfl Tryz.ntmps152 Tryz.results152 rfl fun h0 G0 O0 => ?_
 by_cases hk : v1 = k
 ·repeat' (first|refine Sp.h ?_|refine Lk.r rfl ?_|refine Rf.mk rfl ?_|refine xA ?_|refine All.mk fun _=>?_|refine xT ?_|refine Ch.r ?_|refine xN ?_|(apply Cl.p (h);focus repeat' constructor))
  refine Fin.p rfl (vb (decide_eq_decide.2 ?_))
  simp [hk]
 ·repeat' (first|refine Sp.h ?_|refine Lk.r rfl ?_|refine Rf.mk rfl ?_|refine xB ?_|refine All.mk fun _=>?_|refine xT ?_|refine xN ?_|(apply Cl.p (h);(focus repeat' (first|fail))))
  refine Fin.p rfl (vb ?_)
  simp [hk]
theorem seen_p (w : WrS) (L : List WrS) (k : Int) : CallP Tryz.prog 115 [evW' w, wrs L, it k] (bl (decide (SeenW w.1 L k))) := by
 have hc := containsW_p (seen1_p k w) rfl L
 refine CallA.of pg ord115 Tryz.func115 rfl Tryz.ntmps115 Tryz.results115 rfl fun h0 G0 O0 => ?_
 (repeat' (first|(show CA _ _ (Code.region 1 _ _) _ _;apply Stopped.out)|refine Sp.h ?_|refine Lk.r rfl ?_|refine Rf.mk rfl ?_|refine All.mk fun _=>?_|fail));any_goals apply Stopped.mk
 refine CA.freezeB 3 rfl (by repeat constructor) ?_
 refine CA.freezeB 5 rfl (by repeat constructor) ?_
 repeat' (first|refine Sp.h ?_|refine Lk.r rfl ?_|refine Rf.mk rfl ?_|refine xN ?_|(apply Cl.p (hc);focus repeat' constructor))
 refine Fin.p rfl (vb (decide_eq_decide.2 ?_))
 rw [idxN_lt]
 simp [SeenW]
theorem ebit_a (b : Bool) : CallA Tryz.prog 112 [bl b] [] fun r own => ∃ v, r = .ow v ∧ own = [arrR v 3 1 [[it (if b = true then 1 else 0)]] id] := by
 refine CallA.of pg ord112 Tryz.func112 rfl Tryz.ntmps112 Tryz.results112 rfl fun h0 G0 O0 => ?_
 cases b
 ·repeat' (first|refine Sp.h ?_|refine Lk.r rfl ?_|refine Rf.mk rfl ?_|refine All.mk fun _=>?_|(apply Fk.r;focus repeat' first|infer_instance|constructor)|refine xN ?_|refine Rf.mk ⟨rfl, rfl, rfl⟩ ?_|fail)
  exact ⟨_, _, .one (.same (.z)), _, rfl, rfl⟩
 ·repeat' (first|refine Sp.h ?_|refine Lk.r rfl ?_|refine Rf.mk rfl ?_|refine All.mk fun _=>?_|(apply Fk.r;focus repeat' first|infer_instance|constructor)|refine xN ?_|refine Rf.mk ⟨rfl, rfl, rfl⟩ ?_|fail)
  exact ⟨_, _, .one (.same (.z)), _, rfl, rfl⟩
theorem ebit_p (b : Bool) : CallP Tryz.prog 112 [bl b] (ints [if b = true then 1 else 0]) :=
 CallA.fx (ebit_a b) fun _ _ ⟨_, e1, e2⟩ => by
  subst e1;subst e2
  exact .sl .here (Nat.le_of_ble_eq_true rfl) (.agg (.le (ALe.refl _) .nil) .nil) .nil
theorem notk_p (k : Int) (w : WrS) : CallP Tryz.prog 110 [evW' w, .ad [it k] 0] (bl (!decide (w.2.1 = k))) := by
 obtain ⟨e, u1, u2, u3⟩ := w
 simp only
 refine CallA.of pg ord110 Tryz.func110 rfl Tryz.ntmps110 Tryz.results110 rfl fun h0 G0 O0 => ?_
 repeat' (first|refine Sp.h ?_|refine Lk.r rfl ?_|refine Rf.mk rfl ?_|refine All.mk fun _=>?_|refine xT ?_|refine xN ?_|fail)
 refine Fin.p rfl (vb ?_)
 simp
def ofW (L : List WrS) (k : Int) : List WrS := L.filter fun w => decide (w.2.1 = k)
theorem of_a (L : List WrS) (k : Int) (hl : L.length ≤ 1000000) : CallO Tryz.prog 107 [wrs L, it k] 177 16 (ofW L k) wrC := by
 have h1 := cloneW_o L (by omega)
 refine CallA.of pg ord107 Tryz.func107 rfl Tryz.ntmps107 Tryz.results107 rfl fun h0 G0 O0 => ?_
 (repeat' (first|(show CA _ _ (Code.region 1 _ _) _ _;apply Stopped.out)|refine Sp.h ?_|refine Lk.r rfl ?_|refine Rf.mk rfl ?_|refine All.mk fun _=>?_|fail));any_goals apply Stopped.mk
 refine CA.freezeB 3 rfl (by repeat constructor) ?_
 repeat' (first|refine Sp.h ?_|refine Lk.r rfl ?_|refine Rf.mk rfl ?_|fail)
 (refine Cl.use (h1) (by repeat' (first|exact Lend.nil|apply Lend.keep|fail)) .nil rfl ?_;rintro _ _ ⟨_, rfl, rfl⟩)
 rename_i v
 repeat' (first|refine Sp.h ?_|refine Lk.r rfl ?_|refine Rf.mk rfl ?_|fail)
 have h2 := deleteW_a (notk_p k) rfl v L hl
 refine xW (h2) ?_
 rintro _ _ ⟨w', rfl, rfl⟩
 repeat' (first|refine Sp.h ?_|refine Lk.r rfl ?_|refine xN ?_|fail)
 have he : (L.filter fun x => !(!decide (x.2.1 = k))) = ofW L k := by simp [ofW]
 rw [he]
 exact ⟨_, _, .one (.same (.z)), _, rfl, rfl⟩
theorem of_p (L : List WrS) (k : Int) (hl : L.length ≤ 1000000) : CallP Tryz.prog 107 [wrs L, it k] (wrs (ofW L k)) :=
 CallA.fz (Nat.le_trans (List.length_filter_le _ _) (by omega)) (of_a L k hl)
end Go.Proofs.YtajenkpjcbaadaaGreat
