/- Part 8 of the ground of this proof: what its texts say of the model, the program and the plain data; conditions: those that are named. -/
import Derived.Test.YtmllihbhphnolaaGreatP07
namespace Go.CF
open Go
theorem run_overlaps_none {P : Program} (w : World) (tS tR e : TypeId) (ht : P.underlying tS = some (.slice e)) (size : Nat) (hz : ∀ w, (Go.sizeOf e).run P w = .ok size w) (p q : Option Addr) (la ca lb cb : Nat) (h : p = none ∨ q = none ∨ la = 0 ∨ lb = 0) :
    (Extern.SlicesOverlaps.overlaps #[tS, tS] #[tR] #[.slice p la ca, .slice q lb cb]).run P w = .ok (.bool false) w := by
  change Sem.run P (α := Value) (do
    let some t := (#[tS, tS] : Array TypeId)[0]? | stuck "slices.overlaps: no parameter types"
    let .slice elem ← underlying t | stuck "slices.overlaps: slice type expected"
    let size ← sizeOf elem
    match p, q with
    | some a, some b =>
      if la = 0 ∨ lb = 0 ∨ size = 0 then pure (Value.bool false)
      else if a.block != b.block && (← frozen a) && (← frozen b) then unsupported .addressObserved
      else do
        if a.block != b.block then do
          noView a; noView b
          if ← mayBeOne a b then return Value.bool ((← choose (.extern "sameAddr.stringBytes" 2)) == 1)
        pure (Value.bool (a.block == b.block && a.off < b.off + lb * size && b.off < a.off + la * size))
    | _, _ => pure (Value.bool false)) w = _
  cases p with
  | none => simp [run_underlying ht, hz]
  | some a =>
    cases q with
    | none => simp [run_underlying ht, hz]
    | some b =>
      have h0 : la = 0 ∨ lb = 0 ∨ size = 0 := by rcases h with h | h | h | h <;> simp_all
      simp [run_underlying ht, hz, h0]
/-- The function that tells whether two slices overlap. -/
structure OvF (P : Program) (f : FuncId) (tS : TypeId) : Prop where
  ok : ∃ fn tR, P.funcs[f]? = some fn ∧ (fn.name == "runtime.NumGoroutine") = false ∧ fn.body.isNone = true ∧ Extern.findNext fn = none ∧ Extern.find fn = some (Extern.SlicesOverlaps.overlaps #[tS, tS] #[tR])
section
variable {Γ : Cx} {k : List KI} {e : EA} {o : List Res} {N : NA} {c : Cls} {d : Tmp} {ty : TypeId} {x y z : Operand} {t u : TypeId} {kk : IntKind} {i : Int}
/-- Two slices of one's own that lie apart. -/
structure Ovl (o : List Res) (a b : AV) (k : Prop) : Prop where
  ok : ∃ (u v : Value) (s j m : Nat) (α : Type) (T sz : Nat) (l : List α) (f : α → List AV) (rest : List Res) (T' sz' : Nat) (L : List (List Value)) (m' : Nat) (rest' : List Res), a = .ow u ∧ b = .os v s j m ∧ Take o (arrR u T sz l f) rest ∧ Take rest (arrX v T' sz' L m') rest' ∧ 0 < sz' ∧ k
theorem Ovl.mk' {u v : Value} {s j m : Nat} {α : Type} {T sz : Nat} {l : List α} {f : α → List AV} {rest : List Res} {T' sz' : Nat} {L : List (List Value)} {m' : Nat} {rest' : List Res} {k : Prop} (h1 : Take o (arrR u T sz l f) rest) (h2 : Take rest (arrX v T' sz' L m') rest') (h3 : 0 < sz') (hk : k) : Ovl o (.ow u) (.os v s j m) k :=
  ⟨u, v, s, j, m, α, T, sz, l, f, rest, T', sz', L, m', rest', rfl, rfl, h1, h2, h3, hk⟩
theorem SA.ovl {f : FuncId} {tS : TypeId} (hf : OvF Γ.P f tS) {p : Nat × TI} (hp : slE Γ.tt tS = some p) {tys : Array TypeId} (hc : isLoud c = true) (h : Lk (evA e x) fun a => Lk (evA e y) fun b => Ovl o a b (N ((d, .val (.bool false)) :: e) o)) :
    SA Γ c (some d) (.call { callee := .value (.func f), args := #[x, y], argTypes := tys }) ty e o N := by
  obtain ⟨a, ha, b, hb, u, v, s, j, m, α, T, sz, l, g, rest, T', sz', L, m', rest', rfl, rfl, tk1, tk2, hsp, hn⟩ := h
  refine ⟨fun env hh G Os cn => ?_⟩
  obtain ⟨w1, g1, hw1, q1, l1, c1, hq1⟩ := cn.get ha
  obtain ⟨w2, g2, q2, l2, c2, rfl, hjm, rfl⟩ := cn.get hb
  subst hw1
  subst hq1
  obtain ⟨ti, t1, t2, t3⟩ := slE_spec hp
  obtain ⟨O, Os', cn2⟩ := cn.take tk1
  obtain ⟨⟨ho, rows, hw, hr⟩, hrest⟩ := cn2.hp.own
  obtain ⟨O', Os2, cn3⟩ := (show Con Γ ⟨e, rest⟩ env hh G Os' from ⟨cn2.hp.drop, cn2.env, cn2.nf⟩).take tk2
  obtain ⟨⟨ho', hv', hL', junk, hw'⟩, _⟩ := cn3.hp.own
  obtain ⟨fn, tR, hf1, hf2, hf3, hf4, hf5⟩ := hf.ok
  have hu := (Γ.ok.ok _ _ t1).slice t2
  have hzz := (Γ.ok.ok _ _ t3).run_size
  have key : ∀ w : World, w.heap = hh → (Extern.SlicesOverlaps.overlaps #[tS, tS] #[tR] #[.slice q1 l1 c1, .slice (subA q2 s j c2) m (c2 - j)]).run Γ.P w = .ok (.bool false) w := by
    intro w hwh
    rcases hw.ok with ⟨e1, e2⟩ | ⟨b1, of1, cap1, L1, e1, hb1, _, _, _⟩
    · cases e1
      exact run_overlaps_none w tS tR p.1 hu p.2.size hzz _ _ _ _ _ _ (.inl rfl)
    · cases e1
      rcases hw'.ok with ⟨e1, e2⟩ | ⟨b2, of2, cap2, L2, e1, hb2, k1, k2, _⟩
      · cases e1
        refine run_overlaps_none w tS tR p.1 hu p.2.size hzz _ _ _ _ _ _ (.inr (.inl ?_))
        unfold subA; split <;> rfl
      · cases e1
        by_cases h0 : l.length = 0 ∨ m = 0
        · exact run_overlaps_none w tS tR p.1 hu p.2.size hzz _ _ _ _ _ _ (.inr (.inr h0))
        · have hjc : j < m' := by omega
          have hsub : ∃ a, subA (some ⟨b2, of2, none⟩) s j c2 = some a ∧ a.block = b2 := by
            unfold subA
            split
            · exact ⟨_, rfl, rfl⟩
            · exact ⟨_, rfl, by simp [addr_add]⟩
          obtain ⟨a2, ha2, hab⟩ := hsub
          rw [ha2]
          have hB1 : w.heap[b1]? = some (.cells L1.toArray T (0, 0)) := hb1.heap hwh
          have hB2 : w.heap[b2]? = some (.cells L2.toArray T' (0, 0)) := hb2.heap hwh
          have hne : b1 ≠ b2 := fun h => by
            have h1 : O b1 := (ho b1).2 (by simp [blkOf])
            have h2 : O' b2 := (ho' b2).2 (by simp [blkOf])
            have hd := List.pairwise_cons.1 cn2.hp.d
            obtain ⟨O2, os2, r1, r2, r3⟩ := tk2.own cn2.hp.drop.own
            have h3 : O2 b2 := (r1.1 b2).2 (by simp [blkOf])
            exact hd.1 O2 (r3.mem_iff.2 (by simp)) b1 h1 (h ▸ h3)
          by_cases hk0 : L2.length = 0
          · have h5 := Nat.mul_le_mul_right sz' k2
            have h6 : 0 < m' * sz' := Nat.mul_pos (by omega) hsp
            omega
          · exact Go.Lib.run_overlaps_apart w tS tR p.1 hu p.2.size hzz ⟨b1, of1, none⟩ a2 l.length c1 m (c2 - j) (by rw [hab]; exact hne) T T' L1.length L2.length (by simp [World.shape?, hB1]) (by rw [hab]; simp [World.shape?, hB2]) hk0 (by simp [World.frozen?, hB1]) (by simp [World.frozen?, hB1])
  refine St.ofLd hc fun a w oo next Q ha' hwh hop hty hnn => ?_
  have hrun : (execOp a.eval (mkOp (.call { callee := .value (.func f), args := #[x, y], argTypes := tys }) ty)).run Γ.P w = .ok (.value (.bool false)) w := by
    have h1 := run_callFunc_extern hf1 hf2 hf3 hf4 hf5 #[.slice q1 l1 c1, .slice (subA q2 s j c2) m (c2 - j)] w
    rw [key w hwh] at h1
    simp [mkOp, execOp, resolve, invoke, Deferred.ofValue, ha'.ev g1, ha'.ev g2, ha'.ev (x := .func f) (v := .func (.func f) #[] #[]) rfl, h1]
  unfold Oper.wp
  rw [exec_mk, hop, hty, hrun]
  exact hnn _ w (Same.refl w) (hwh ▸ CN.mk (cn.put d (a := .val _) rfl) hn)
/-- A conversion of an integer. -/
structure Cvk (q : TK) (i : Int) (M : IntKind → Int → Prop) : Prop where
  ok : ∃ k' r, q = .int k' ∧ k'.wrap i = r ∧ M k' r
theorem Cvk.i64 {q : TK} {i : Int} {M : IntKind → Int → Prop} (hq : q = .int .i64) (h : -9223372036854775808 ≤ i ∧ i ≤ 9223372036854775807) (hm : M .i64 i) : Cvk q i M := ⟨.i64, i, hq, wrap_i64 h, hm⟩
theorem Cvk.u64 {q : TK} {i : Int} {M : IntKind → Int → Prop} (hq : q = .int .u64) (h : 0 ≤ i ∧ i ≤ 18446744073709551615) (hm : M .u64 i) : Cvk q i M := ⟨.u64, i, hq, by
  simp [IntKind.wrap, IntKind.signed, IntKind.bits]; omega, hm⟩
instance (priority := 1100) {w : TypeId} : Sp (Ap1 Γ c d (.convert t w x) ty e o N x (.val (.int kk i))) (Lk (Γ.tt t) fun _ => Lk (Γ.tt w) fun ti => Cvk ti.kind i fun k' r => N ((d, .val (.int k' r)) :: e) o) := ⟨fun ⟨_, h1, _, h2, _, _, hq, hr, hn⟩ => puv1 (fun _ _ => rfl) hn fun _ _ _ h k => St.convert Γ.ok h1 h2 hq h hr k⟩
instance {k2 : IntKind} : Sp (Ap2 Γ c d (.binOp .shr t x y u) ty e o N x (.val (.int .u64 i)) y (.val (.int k2 1))) (N ((d, .val (.int .u64 (i / 2))) :: e) o) := ⟨fun hn => puv2 hn fun _ _ _ h h' k => St.shrN h h' (m := 1) rfl (by decide) (by rw [show (2 : Int) ^ 1 = 2 from rfl]; exact k)⟩
end
end Go.CF
namespace Go.Proofs.YtmllihbhphnolaaGreat
open Go Go.CF
set_option maxRecDepth 20000
theorem ovF_mark : OvF Tryz.prog 292 121 :=
  ⟨_, 4, Tryz.func292, by kernel_rfl, by kernel_rfl, by kernel_rfl, by kernel_rfl⟩
instance (priority := 2000) {T : Nat → Ord × (Nat → Cls)} {n : Nat} {rs : Array ResultVar} {K : AV → List Res → Prop} {h0 : Heap} {G0 O0 : Nat → Prop} {d : Tmp} {x y : Operand} {tys : Array TypeId} {ty : TypeId} {e : EA} {o : List Res} {N : NA} :
    Sp (SA ⟨Tryz.prog, tt, en, pg, T, n, rs, K, h0, G0, O0, ⟨none⟩⟩ .loud (some d) (.call { callee := .value (.func 292), args := #[x, y], argTypes := tys }) ty e o N)
      (Lk (evA e x) fun a => Lk (evA e y) fun b => Ovl o a b (N ((d, .val (.bool false)) :: e) o)) := ⟨fun h => SA.ovl ovF_mark (tS := 121) rfl rfl h⟩
theorem ins_eq {α : Type} {L : List α} {r : α} {i : Nat} (hi : i < L.length) (a b c : Nat) (ha : a = L.length - i) (hb : b = 1) (hc : c = 1) :
    (L.take (i + c) ++ (L.drop i).take a).take i ++ [r].take b ++ (L.take (i + c) ++ (L.drop i).take a).drop (i + b) = L.take i ++ r :: L.drop i := by
  subst ha; subst hb; subst hc
  have h1 : (L.drop i).take (L.length - i) = L.drop i := List.take_of_length_le (by simp)
  have h2 : (L.take (i + 1)).length = i + 1 := by simp; omega
  rw [h1, List.take_append_of_le_length (by omega), List.take_take, Nat.min_eq_left (by omega), List.drop_append_of_le_length (by omega), List.drop_of_length_le (by omega)]
  simp
theorem ins_eq2 {α : Type} {L : List α} {r : α} {i : Nat} (hi : i < L.length) (a b c d e g : Nat) (hg : g = i) (he : e = 1) (hd : d = L.length - i) (hb : b = L.length - i) (ha : a = i) (hc : c = 1) :
    (((L.take g).take a ++ [r].take e).take (i + c) ++ ((L.drop i).take d).take b) = L.take i ++ r :: L.drop i := by
  subst ha; subst hb; subst hc; subst hd; subst he; subst hg
  have h1 : (L.drop g).take (L.length - g) = L.drop g := List.take_of_length_le (by simp)
  rw [h1, h1, List.take_take, Nat.min_self, List.take_of_length_le (l := List.take g L ++ List.take 1 [r]) (by simp; omega)]
  simp
set_option maxHeartbeats 1000000 in
theorem insertV_a (w u : Value) (L : List (List Value)) (r : List Value) (i : Nat) (hi : i ≤ L.length) (hl : L.length ≤ 1000000) :
    CallA Tryz.prog 284 [.ow w, it i, .ow u] [arrR w 125 4 L valR, arrR u 125 4 [r] valR] fun q own => ∃ w', q = .ow w' ∧ own = [arrR w' 125 4 (L.take i ++ r :: L.drop i) valR] := by
  refine CallA.of pg ord284 Tryz.func284 rfl Tryz.ntmps284 Tryz.results284 rfl fun h0 G0 O0 => ?_
  have h1r : ([r] : List (List Value)).length = 1 := rfl
  by_cases hin : i = L.length
  · subst hin
    rw [List.take_length, List.drop_length]
    repeat' (first | refine Sp.h ?_ | refine Lk.r rfl ?_ | refine Rf.mk rfl ?_ | (apply Bd.t; (focus (first | assumption | omega | rfl))) | (apply Bd.f; (focus (first | assumption | omega | exact Bool.false_ne_true))) | (apply Om.mk; (focus first | omega | (simp <;> omega))) | (refine All.mk ?_; intro _) | (apply TkA.r; (focus (repeat (first | exact Take.here | apply Take.there)))) | refine Ce.r ?_ | (apply Nm.r; (focus repeat (first | apply LN.cons | exact LN.nil))) | refine Rf.mk ⟨rfl, rfl⟩ ?_ | (apply Jx.r; (focus exact rfl); (focus first | omega | (simp; done) | (simp; omega))) | refine Mp.same ?_ | fail)
    exact ⟨_, _, .one (.same (.nil (by (repeat (first | exact Subl.nil | refine Subl.cons (by (repeat (first | exact Take.here | apply Take.there))) ?_))))), _, rfl, rfl⟩
  have hin : i < L.length := by omega
  by_cases hc : capV w < L.length + 1
  · repeat' (first | refine Sp.h ?_ | refine Lk.r rfl ?_ | refine Rf.mk rfl ?_ | (apply Bd.t; (focus (first | assumption | omega | rfl))) | (apply Bd.f; (focus (first | assumption | omega | exact Bool.false_ne_true))) | (refine Im.mk ?_; intro _) | (apply TkA.r; (focus (repeat (first | exact Take.here | apply Take.there)))) | refine Rf.mk ⟨rfl, rfl⟩ ?_ | refine Rf.mk ⟨rfl, rfl, rfl⟩ ?_ | (apply Jx.r; (focus exact rfl); (focus first | omega | (simp; done) | (simp; omega))) | refine Mp.same ?_ | (apply Ov.n; (focus first | omega | (simp <;> omega))) | fail)
    refine Jx.r (j := L.length + [r].length - i) (by omega) (by omega) ?_
    (repeat' (first | (show CA _ _ (Code.region 12 _ _) _ _; apply Stopped.out) | refine Sp.h ?_ | refine Lk.r rfl ?_ | refine Rf.mk rfl ?_ | refine OpK.r rfl ?_ | (apply Om.mk; (focus first | omega | (simp <;> omega))) | (refine All.mk ?_; intro _) | (apply TkA.r; (focus (repeat (first | exact Take.here | apply Take.there)))) | refine Rf.mk ⟨rfl, rfl⟩ ?_ | refine Rf.mk ⟨rfl, rfl, rfl⟩ ?_ | (apply Jx.r; (focus exact rfl); (focus first | omega | (simp; done) | (simp; omega))) | refine Mp.same ?_ | (apply CA.draw; (focus rfl); (focus kernel_rfl); (focus kernel_rfl); (focus repeat' (first | apply ON.one | exact ON.done | exact ON.none | apply ON.alt)); (focus rfl)) | (apply Ov.n; (focus first | omega | (simp <;> omega))) | (apply CpS.part; (focus ((repeat (first | exact Take.here | apply Take.there)); done))) | (apply TkX.r; (focus (repeat (first | exact Take.here | apply Take.there)))) | fail)); any_goals apply Stopped.mk
    apply CA.ofX 9
    focus rfl
    focus (repeat (first | exact Take.here | apply Take.there))
    focus (simp; omega)
    repeat' (first | refine Sp.h ?_ | refine Lk.r rfl ?_ | refine Rf.mk rfl ?_ | (apply Nm.r; (focus repeat (first | apply LN.cons | exact LN.nil))) | fail)
    rw [ins_eq2 hin _ _ _ _ _ _ (by omega) (by omega) (by omega) (by simp; omega) (by omega) h1r]
    exact ⟨_, _, .one (.same (.nil (by (repeat (first | exact Subl.nil | refine Subl.cons (by (repeat (first | exact Take.here | apply Take.there))) ?_))))), _, rfl, rfl⟩
  · (repeat' (first | (show CA _ _ (Code.region 13 _ _) _ _; apply Stopped.out) | refine Sp.h ?_ | refine Lk.r rfl ?_ | refine Rf.mk rfl ?_ | (apply Bd.f; (focus (first | assumption | omega | exact Bool.false_ne_true))) | (refine Im.mk ?_; intro _) | (apply TkA.r; (focus (repeat (first | exact Take.here | apply Take.there)))) | (apply Jx.r; (focus exact rfl); (focus first | omega | (simp; done) | (simp; omega))) | (apply Ov.n; (focus first | omega | (simp <;> omega))) | fail)); any_goals apply Stopped.mk
    apply CA.toX 0
    focus rfl
    focus (repeat (first | exact Take.here | apply Take.there))
    intro _
    (repeat' (first | (show CA _ _ (Code.region 16 _ _) _ _; apply Stopped.out) | refine Sp.h ?_ | refine Lk.r rfl ?_ | refine Rf.mk rfl ?_ | (apply Bd.f; (focus (first | assumption | omega | exact Bool.false_ne_true))) | refine OpK.r rfl ?_ | (apply Om.mk; (focus first | omega | (simp <;> omega))) | refine Rf.mk ⟨rfl, rfl, rfl⟩ ?_ | (apply Jx.r; (focus exact rfl); (focus first | omega | (simp; done) | (simp; omega))) | (apply CA.draw; (focus rfl); (focus kernel_rfl); (focus kernel_rfl); (focus repeat' (first | apply ON.one | exact ON.done | exact ON.none | apply ON.alt)); (focus rfl)) | (apply Ov.n; (focus first | omega | (simp <;> omega))) | (apply CpS.part; (focus ((repeat (first | exact Take.here | apply Take.there)); done))) | (apply TkX.r; (focus (repeat (first | exact Take.here | apply Take.there)))) | (apply ExX.long; (focus rfl); (focus first | omega | (simp <;> omega)); (focus first | omega | (simp <;> omega))) | (apply Ovl.mk'; (focus (repeat (first | exact Take.here | apply Take.there))); (focus (repeat (first | exact Take.here | apply Take.there))); (focus decide)) | fail)); any_goals apply Stopped.mk
    refine CA.sub ⟨[(0, .ow _), (1, it i), (2, .ow u)], [arrR _ 125 4 _ valR, arrR u 125 4 [r] valR]⟩ ⟨by (repeat (first | exact trivial | refine ⟨rfl, ?_⟩)), by (repeat (first | exact Subl.nil | refine Subl.cons (by (repeat (first | exact Take.here | apply Take.there))) ?_))⟩ ?_
    repeat' (first | refine Sp.h ?_ | refine Lk.r rfl ?_ | refine Rf.mk rfl ?_ | (apply TkA.r; (focus (repeat (first | exact Take.here | apply Take.there)))) | (apply Nm.r; (focus repeat (first | apply LN.cons | exact LN.nil))) | refine Rf.mk ⟨rfl, rfl, rfl⟩ ?_ | (apply Jx.r; (focus exact rfl); (focus first | omega | (simp; done) | (simp; omega))) | refine Mp.same ?_ | (apply CpS.all; (focus ((repeat (first | exact Take.here | apply Take.there)); done))) | fail)
    rw [ins_eq hin _ _ _ (by omega) (by simp; omega) h1r]
    exact ⟨_, _, .one (.same (.nil (by (repeat (first | exact Subl.nil | refine Subl.cons (by (repeat (first | exact Take.here | apply Take.there))) ?_))))), _, rfl, rfl⟩
end Go.Proofs.YtmllihbhphnolaaGreat
namespace Go.Proofs.YtmllihbhphnolaaGreat
open Go Go.CF
set_option maxRecDepth 20000
def idxN {α : Type} (p : α → Bool) : List α → Nat
  | [] => 0
  | a :: l => if p a then 0 else idxN p l + 1
def idxI {α : Type} (p : α → Bool) (l : List α) : Int := if idxN p l < l.length then idxN p l else -1
theorem idxN_of {α : Type} {p : α → Bool} : ∀ {l : List α} {i : Nat} {x : α}, l[i]? = some x → p x = true → (∀ j y, j < i → l[j]? = some y → p y = false) → idxN p l = i := by
  intro l
  induction l with
  | nil => intro i x h; cases h
  | cons a l ih =>
    intro i x h1 h2 h3
    cases i with
    | zero => cases h1; simp [idxN, h2]
    | succ i =>
      have := h3 0 a (by omega) rfl
      simp [idxN, this, ih h1 h2 fun j y hj hy => h3 (j + 1) y (by omega) hy]
theorem idxN_none {α : Type} {p : α → Bool} : ∀ {l : List α}, (∀ x ∈ l, p x = false) → idxN p l = l.length := by
  intro l
  induction l with
  | nil => intro _; rfl
  | cons a l ih => intro h; simp [idxN, h a (by simp), ih fun x hx => h x (by simp [hx])]
theorem idxN_at {α : Type} {p : α → Bool} : ∀ {l : List α}, idxN p l < l.length → ∃ x, l[idxN p l]? = some x ∧ p x = true ∧ ∀ j y, j < idxN p l → l[j]? = some y → p y = false := by
  intro l
  induction l with
  | nil => intro h; simp at h
  | cons a l ih =>
    intro h
    by_cases ha : p a = true
    · exact ⟨a, by simp [idxN, ha], ha, fun j y hj => by simp [idxN, ha] at hj⟩
    · have he : idxN p (a :: l) = idxN p l + 1 := by simp [idxN, ha]
      obtain ⟨x, h1, h2, h3⟩ := ih (by rw [he] at h; simpa using h)
      refine ⟨x, by rw [he]; exact h1, h2, fun j y hj hy => ?_⟩
      cases j with
      | zero => cases hy; simpa using ha
      | succ j => exact h3 j y (by omega) hy
theorem idxN_le {α : Type} (p : α → Bool) : ∀ l : List α, idxN p l ≤ l.length := by
  intro l
  induction l with
  | nil => exact Nat.le_refl _
  | cons a l ih => simp only [idxN, List.length_cons]; split <;> omega
end Go.Proofs.YtmllihbhphnolaaGreat
namespace Go.Proofs.YtmllihbhphnolaaGreat
open Go Go.CF
set_option maxRecDepth 20000
abbrev mA (x : MkS) : AV := .agg (mkC x)
theorem indexK_p {g : FuncId} {cap : AV} {p : MkS → Bool} (hg : ∀ x, CallP Tryz.prog g [mA x, cap] (bl (p x))) (he : en g = true) (l : List MkS) :
    CallP Tryz.prog 291 [mks l, .fn g [cap]] (it (idxI p l)) := by
  refine CallA.of pg ord291 Tryz.func291 rfl Tryz.ntmps291 Tryz.results291 rfl fun h0 G0 O0 => ?_
  repeat' (first | refine Sp.h ?_ | refine Lk.r rfl ?_ | refine Rf.mk rfl ?_ | (refine Im.mk ?_; intro _) | fail)
  refine CA.loop (fun i : Nat => ⟨[(0, mks l), (1, .fn g [cap]), (7, it (l.length : Nat)), (8, it i)], []⟩)
    (fun i => i ≤ l.length ∧ ∀ j y, j < i → l[j]? = some y → p y = false) (fun i => l.length - i) 0 ⟨by (repeat (first | exact trivial | refine ⟨rfl, ?_⟩)), by (repeat (first | exact Subl.nil | refine Subl.cons (by (repeat (first | exact Take.here | apply Take.there))) ?_))⟩ ⟨Nat.zero_le _, fun j y h => by omega⟩ ?_
  rintro i ⟨hi, hj⟩
  by_cases hin : i < l.length
  · obtain ⟨e, hx⟩ := get_of hin
    repeat' (first | refine Sp.h ?_ | refine Lk.r rfl ?_ | refine Rf.mk rfl ?_ | (apply Bd.t; (focus (first | assumption | omega | rfl))) | (refine Bd.mk ?_ ?_ <;> intro _) | (apply Ix.q; (focus exact rfl); (focus assumption)) | refine Ch.l ⟨rfl, rfl⟩ ?_ | (apply Nm.r; (focus repeat (first | apply LN.cons | exact LN.nil))) | (apply Rf.mk; (focus assumption)) | (apply Ov.n; (focus first | omega | (simp <;> omega))) | fail | (apply Cl.p (hg e); (focus repeat' (first | exact Lend.nil | apply Lend.keep | fail))))
    · rename_i hp
      exact Fin.p rfl (by rw [idxI, idxN_of hx hp hj, if_pos hin])
    · rename_i hp
      refine PA.lp (i + 1) ⟨by (repeat (first | exact trivial | refine ⟨rfl, ?_⟩)), by (repeat (first | exact Subl.nil | refine Subl.cons (by (repeat (first | exact Take.here | apply Take.there))) ?_))⟩ ⟨⟨hin, fun j y h1 h2 => ?_⟩, by omega⟩
      by_cases hij : j = i
      · subst hij; rw [hx] at h2; cases h2; simpa using hp
      · exact hj j y (by omega) h2
  · repeat' (first | refine Sp.h ?_ | refine Lk.r rfl ?_ | refine Rf.mk rfl ?_ | (apply Bd.f; (focus (first | assumption | omega | exact Bool.false_ne_true))) | (apply Nm.r; (focus repeat (first | apply LN.cons | exact LN.nil))) | fail)
    exact Fin.p rfl (by rw [idxI, idxN_none (fun x hx => by obtain ⟨j, hx⟩ := List.getElem?_of_mem hx; exact hj j x (by have := (List.getElem?_eq_some_iff.1 hx).1; omega) hx), if_neg (by omega)])
theorem containsK_p {g : FuncId} {cap : AV} {p : MkS → Bool} (hg : ∀ x, CallP Tryz.prog g [mA x, cap] (bl (p x))) (he : en g = true) (l : List MkS) :
    CallP Tryz.prog 281 [mks l, .fn g [cap]] (bl (decide (idxN p l < l.length))) := by
  refine CallA.of pg ord281 Tryz.func281 rfl Tryz.ntmps281 Tryz.results281 rfl fun h0 G0 O0 => ?_
  repeat' (first | refine Sp.h ?_ | refine Lk.r rfl ?_ | refine Rf.mk rfl ?_ | (apply Nm.r; (focus repeat (first | apply LN.cons | exact LN.nil))) | fail | (apply Cl.p (indexK_p hg he l); (focus repeat' (first | exact Lend.nil | apply Lend.keep | fail))))
  refine Fin.p rfl (vb (decide_eq_decide.2 ?_))
  unfold idxI
  split <;> omega
theorem idxN_lt {α : Type} {p : α → Bool} {l : List α} : idxN p l < l.length ↔ ∃ x ∈ l, p x = true := by
  constructor
  · intro h
    obtain ⟨x, h1, h2, _⟩ := idxN_at h
    exact ⟨x, List.mem_of_getElem? h1, h2⟩
  · rintro ⟨x, hx, hp⟩
    refine Classical.byContradiction fun h => ?_
    have hle := idxN_le p l
    have he : idxN p l = l.length := by omega
    have key : ∀ l : List α, idxN p l = l.length → ∀ x ∈ l, p x = false := by
      intro l
      induction l with
      | nil => intro _ x h; cases h
      | cons a l ih =>
        intro h x hx
        by_cases ha : p a = true
        · simp [idxN, ha] at h
        · have ha' : p a = false := by simpa using ha
          simp [idxN, ha'] at h
          rcases List.mem_cons.1 hx with rfl | hx
          · exact ha'
          · exact ih h x hx
    rw [key l he x hx] at hp
    cases hp
def mkV (x : MkS) : List Value := [.int .i64 x.rep, .int .i64 x.num, .int .i64 x.time, .int .i64 x.val]
theorem mkV_map (l : List MkS) : (l.map mkV).map valR = l.map mkC := by rw [List.map_map]; rfl
/-- Before the place where the first one goes, all stay. -/
theorem filt_idx {α : Type} {p : α → Bool} : ∀ {l : List α}, idxN p l < l.length → (l.take (idxN p l + 1)).filter (fun x => !p x) = l.take (idxN p l) := by
  intro l
  induction l with
  | nil => intro h; simp at h
  | cons a l ih =>
    intro h
    by_cases ha : p a = true
    · simp [idxN, ha]
    · have ha' : p a = false := by simpa using ha
      have he : idxN p (a :: l) = idxN p l + 1 := by simp [idxN, ha']
      rw [he] at h ⊢
      have := ih (by simpa using h)
      rw [List.take_succ_cons, List.filter_cons, List.take_succ_cons, this]
      simp [ha']
set_option maxHeartbeats 1000000 in
theorem deleteK_a {g : FuncId} {cap : AV} {p : MkS → Bool} (hg : ∀ x, CallP Tryz.prog g [mA x, cap] (bl (p x))) (he : en g = true) (w : Value) (l : List MkS) (hl : l.length ≤ 1000000) :
    CallA Tryz.prog 294 [.ow w, .fn g [cap]] [arrR w 125 4 l mkC] fun q own => ∃ w', q = .ow w' ∧ own = [arrR w' 125 4 (l.filter fun x => !p x) mkC] := by
  have hix := indexK_p hg he l
  refine CallA.of pg ord294 Tryz.func294 rfl Tryz.ntmps294 Tryz.results294 rfl fun h0 G0 O0 => ?_
  repeat' (first | refine Sp.h ?_ | refine Lk.r rfl ?_ | refine Rf.mk rfl ?_ | fail)
  (apply Cl.lend (hix); (focus repeat' (first | exact Lend.nil | apply Lend.keep | (apply Lend.lend; (focus (repeat (first | exact Take.here | apply Take.there))); (focus first | omega | (simp; omega))) | fail)))
  by_cases hn : idxN p l < l.length
  · have hI : idxI p l = (idxN p l : Nat) := if_pos hn
    rw [hI]
    repeat' (first | refine Sp.h ?_ | refine Lk.r rfl ?_ | refine Rf.mk rfl ?_ | (apply Bd.f; (focus (first | assumption | omega | exact Bool.false_ne_true))) | (apply Ov.n; (focus first | omega | (simp <;> omega))) | fail)
    refine CA.loop (fun x : Nat × Nat × List MkS => ⟨[(0, .ow w), (1, .fn g [cap]), (5, it x.1), (6, it x.2.1)], [arrR w 125 4 x.2.2 mkC]⟩)
      (fun x => x.1 < x.2.1 ∧ x.2.1 ≤ l.length ∧ x.2.2.length = l.length ∧ x.2.2.take x.1 = (l.take x.2.1).filter (fun x => !p x) ∧ x.2.2.drop x.2.1 = l.drop x.2.1) (fun x => l.length - x.2.1) (idxN p l, idxN p l + 1, l) ⟨by (repeat (first | exact trivial | refine ⟨rfl, ?_⟩)), by (repeat (first | exact Subl.nil | refine Subl.cons (by (repeat (first | exact Take.here | apply Take.there))) ?_))⟩ ⟨Nat.lt_succ_self _, hn, rfl, (filt_idx hn).symm, rfl⟩ ?_
    rintro ⟨i, j, cur⟩ ⟨h1, h2, h3, h4, h5⟩
    simp only at h1 h2 h3 h4 h5
    simp only
    by_cases hj : j < l.length
    · obtain ⟨x, hx⟩ := get_of hj
      have hcx : cur[j]? = some x := by
        have := congrArg (fun z => z[0]?) h5
        simpa [List.getElem?_drop, hx] using this
      obtain ⟨y, hy⟩ := get_of (l := cur) (i := i) (by omega)
      have h6 : cur.drop (j + 1) = l.drop (j + 1) := by rw [← List.drop_drop, h5, List.drop_drop]
      have h7 : l.take (j + 1) = l.take j ++ [x] := by rw [List.take_add_one, hx]; rfl
      repeat' (first | refine Sp.h ?_ | refine Lk.r rfl ?_ | refine Rf.mk rfl ?_ | (apply Bd.t; (focus (first | assumption | omega | rfl))) | (refine Bd.mk ?_ ?_ <;> intro _) | (refine All.mk ?_; intro _) | (apply TkA.r; (focus (repeat (first | exact Take.here | apply Take.there)))) | (apply TkB.r; (focus (repeat (first | exact Take.here | apply Take.there)))) | (apply Ix.q; (focus exact rfl); (focus assumption)) | (apply At.r; (focus assumption)) | refine Ch.l ⟨rfl, rfl⟩ ?_ | (apply SetAsk.r; (focus (repeat (first | exact SetAs.z | (apply SetAs.c; (focus (repeat (first | assumption | exact SetA.z | apply SetA.s)))))))) | (apply Nm.r; (focus repeat (first | apply LN.cons | exact LN.nil))) | refine Up.r rfl ?_ | (apply Rf.mk; (focus assumption)) | (apply Ov.n; (focus first | omega | (simp <;> omega))) | fail | (apply Cl.p (hg x); (focus repeat' (first | exact Lend.nil | apply Lend.keep | fail))))
      · rename_i hp
        exact PA.lp (i, j + 1, cur) ⟨by (repeat (first | exact trivial | refine ⟨rfl, ?_⟩)), by (repeat (first | exact Subl.nil | refine Subl.cons (by (repeat (first | exact Take.here | apply Take.there))) ?_))⟩ ⟨⟨by simp only; omega, hj, h3, by simp only; rw [h7, List.filter_append, h4]; simp [hp], h6⟩, by simp only; omega⟩
      · rename_i hp
        have hp : p x = false := by simpa using hp
        have h8 : (cur.set i x).take (i + 1) = cur.take i ++ [x] := by
          rw [List.take_add_one, List.getElem?_set, if_pos rfl, if_pos (by omega), List.take_set_of_le (Nat.le_refl _)]; rfl
        exact PA.lp (i + 1, j + 1, cur.set i x) ⟨by (repeat (first | exact trivial | refine ⟨rfl, ?_⟩)), by (repeat (first | exact Subl.nil | refine Subl.cons (by (repeat (first | exact Take.here | apply Take.there))) ?_))⟩ ⟨⟨by simp only; omega, hj, by simp only; rw [List.length_set]; exact h3, by simp only; rw [h7, List.filter_append, h8, h4]; simp [hp], by simp only; rw [List.drop_set_of_lt (by omega)]; exact h6⟩, by simp only; omega⟩
    · have hje : j = l.length := by omega
      subst hje
      rw [List.take_length] at h4
      (repeat' (first | (show CA _ _ (Code.region 11 _ _) _ _; apply Stopped.out) | refine Sp.h ?_ | refine Lk.r rfl ?_ | refine Rf.mk rfl ?_ | (apply Bd.f; (focus (first | assumption | omega | exact Bool.false_ne_true))) | (apply TkA.r; (focus (repeat (first | exact Take.here | apply Take.there)))) | fail)); any_goals apply Stopped.mk
      apply CA.retype (m := cur.map mkV) (g := valR)
      focus (repeat (first | exact Take.here | apply Take.there))
      focus exact mkV_map cur
      apply CA.toX 0
      focus rfl
      focus (repeat (first | exact Take.here | apply Take.there))
      intro hcap
      rw [List.length_map] at hcap
      (repeat' (first | (show CA _ _ Code.ret _ _; apply Stopped.out) | refine Sp.h ?_ | refine Lk.r rfl ?_ | refine Rf.mk rfl ?_ | (apply Om.mk; (focus first | omega | (simp <;> omega))) | refine Rf.mk ⟨rfl, rfl⟩ ?_ | refine Rf.mk ⟨rfl, rfl, rfl⟩ ?_ | (apply Jx.r; (focus exact rfl); (focus first | omega | (simp; done) | (simp; omega))) | (apply TkX.r; (focus (repeat (first | exact Take.here | apply Take.there)))) | (apply ExX.short; (focus rfl); (focus first | omega | (simp <;> omega)); (focus first | omega | (simp <;> omega))) | fail)); any_goals apply Stopped.mk
      apply CA.retype (m := l.filter fun x => !p x) (g := mkC)
      focus (repeat (first | exact Take.here | apply Take.there))
      focus (rw [← h4, ← mkV_map, List.map_take]; simp [List.take_take])
      repeat' (first | refine Sp.h ?_ | refine Lk.r rfl ?_ | (apply Nm.r; (focus repeat (first | apply LN.cons | exact LN.nil))) | fail)
      exact ⟨_, _, .one (.same (.nil (by (repeat (first | exact Subl.nil | refine Subl.cons (by (repeat (first | exact Take.here | apply Take.there))) ?_))))), _, rfl, rfl⟩
  · have hI : idxI p l = -1 := if_neg hn
    have hall : l.filter (fun x => !p x) = l := List.filter_eq_self.2 fun x hx => by
      have h9 : ¬ ∃ x ∈ l, p x = true := fun h => hn (idxN_lt.2 h)
      cases hpx : p x
      · rfl
      · exact absurd ⟨x, hx, hpx⟩ h9
    rw [hI, hall]
    repeat' (first | refine Sp.h ?_ | refine Lk.r rfl ?_ | refine Rf.mk rfl ?_ | (apply Bd.t; (focus (first | assumption | omega | rfl))) | (apply Nm.r; (focus repeat (first | apply LN.cons | exact LN.nil))) | fail)
    exact ⟨_, _, .one (.same (.nil (by (repeat (first | exact Subl.nil | refine Subl.cons (by (repeat (first | exact Take.here | apply Take.there))) ?_))))), _, rfl, rfl⟩
end Go.Proofs.YtmllihbhphnolaaGreat
namespace Go.CF
open Go
/-- Several things, asx one. -/
def bunR (rs : List Res) : Res :=
  ⟨fun h O G => ∃ Os, OwnL h G rs Os ∧ Apart Os ∧ ∀ b, O b ↔ U Os b,
   fun {_ _ _ _} x ⟨Os, h1, h2, h3⟩ => ⟨Os, OwnL.stp (fun O' hO' => x.mono fun b hb => hb.imp (fun h => (h3 b).2 ⟨O', hO', h⟩) id) h1, h2, h3⟩,
   fun x ⟨Os, h1, h2, h3⟩ => ⟨Os, h1.mono x, h2, h3⟩⟩
section
variable {h0 : Heap} {G0 O0 : Nat → Prop} {h : Heap} {G : Nat → Prop} {Os : List (Nat → Prop)} {rs rest : List Res} {O : Nat → Prop}
theorem HpOK.unbun (c : HpOK h0 G0 O0 (bunR rs :: rest) h G (O :: Os)) : ∃ Os', OwnL h G rs Os' ∧ HpOK h0 G0 O0 (rs ++ rest) h G (Os' ++ Os) := by
  obtain ⟨⟨Os', h1, h2, h3⟩, hrest⟩ := c.own
  have hd := List.pairwise_cons.1 c.d
  refine ⟨Os', h1, h1.app hrest, c.g, c.g0, fun X hX b hb => ?_, List.pairwise_append.2 ⟨h2, hd.2, fun A hA B hB b ha hb => hd.1 B hB b ((h3 b).2 ⟨A, hA, ha⟩) hb⟩, c.fp⟩
  rcases List.mem_append.1 hX with hX | hX
  · exact c.o O (by simp) b ((h3 b).2 ⟨X, hX, hb⟩)
  · exact c.o X (by simp [hX]) b hb
theorem HpOK.bun {Os1 Os2 : List (Nat → Prop)} (c : HpOK h0 G0 O0 (rs ++ rest) h G (Os1 ++ Os2)) (h1 : OwnL h G rs Os1) (h2 : OwnL h G rest Os2) : HpOK h0 G0 O0 (bunR rs :: rest) h G (U Os1 :: Os2) := by
  obtain ⟨d1, d2, d3⟩ := List.pairwise_append.1 c.d
  refine ⟨⟨⟨Os1, h1, d1, fun b => Iff.rfl⟩, h2⟩, c.g, c.g0, fun X hX b hb => ?_, List.pairwise_cons.2 ⟨fun B hB b ⟨A, hA, ha⟩ hb => d3 A hA B hB b ha hb, d2⟩, c.fp⟩
  rcases List.mem_cons.1 hX with rfl | hX
  · obtain ⟨A, hA, ha⟩ := hb
    exact c.o A (by simp [hA]) b ha
  · exact c.o X (by simp [hX]) b hb
end
section
variable {Γ : Cx} {k : List KI} {e : EA} {o : List Res} {α : Type} {l : List α} {g : α → Res}
theorem CA.bunTake {y : Code} {i : Nat} {x : α} {rest : List Res} (tk : Take o (bunR (l.map g)) rest) (hx : l[i]? = some x) (h : CA Γ k y e (g x :: bunR ((l.eraseIdx i).map g) :: rest)) : CA Γ k y e o := by
  refine ⟨fun env hh G Os cn => ?_⟩
  obtain ⟨O, Os', cn2⟩ := cn.take tk
  obtain ⟨Os1, g1, g2⟩ := cn2.hp.unbun
  have hil := (List.getElem?_eq_some_iff.1 hx).1
  have hsp : l = l.take i ++ x :: l.drop (i + 1) := by
    have h9 := List.drop_eq_getElem_cons hil
    rw [(List.getElem?_eq_some_iff.1 hx).2] at h9
    rw [← h9, List.take_append_drop]
  have hrest := cn2.hp.own.2
  rw [hsp, List.map_append, List.map_cons] at g1
  obtain ⟨A, B, rfl, a1, a2⟩ := OwnL.split g1
  match B, a2 with
  | X :: B, ⟨b1, b2⟩ =>
    have hp : (A ++ X :: B ++ Os').Perm (X :: ((A ++ B) ++ Os')) := by
      rw [List.append_assoc, List.cons_append]
      exact List.perm_middle.trans (by rw [List.append_assoc])
    have herase : (l.eraseIdx i).map g = (l.take i).map g ++ (l.drop (i + 1)).map g := by rw [List.eraseIdx_eq_take_drop_succ, List.map_append]
    have c3 : HpOK Γ.h0 Γ.G0 Γ.O0 (g x :: ((l.eraseIdx i).map g ++ rest)) hh G (X :: ((A ++ B) ++ Os')) :=
      g2.perm ⟨b1, by rw [herase]; exact (a1.app b2).app hrest⟩ hp
    have c4 : HpOK Γ.h0 Γ.G0 Γ.O0 (((l.eraseIdx i).map g) ++ (g x :: rest)) hh G ((A ++ B) ++ (X :: Os')) :=
      c3.perm (by rw [herase]; exact (a1.app b2).app ⟨b1, hrest⟩) List.perm_middle.symm
    have c5 := c4.bun (by rw [herase]; exact a1.app b2) ⟨b1, hrest⟩
    have c6 : HpOK Γ.h0 Γ.G0 Γ.O0 (g x :: bunR ((l.eraseIdx i).map g) :: rest) hh G (X :: U (A ++ B) :: Os') :=
      c5.perm ⟨b1, c5.own.1, hrest⟩ (List.Perm.swap _ _ _)
    exact h.h env hh G _ ⟨c6, cn.env, cn.nf⟩
theorem CA.bunPush {y : Code} {x : α} {rest1 rest2 : List Res} (tk1 : Take o (bunR (l.map g)) rest1) (tk2 : Take rest1 (g x) rest2) (h : CA Γ k y e (bunR ((l ++ [x]).map g) :: rest2)) : CA Γ k y e o := by
  refine ⟨fun env hh G Os cn => ?_⟩
  obtain ⟨O, Os', cn2⟩ := cn.take tk1
  obtain ⟨X, Os2, r1, r2, r3⟩ := tk2.own cn2.hp.own.2
  have c2 : HpOK Γ.h0 Γ.G0 Γ.O0 (bunR (l.map g) :: g x :: rest2) hh G (O :: X :: Os2) := cn2.hp.perm ⟨cn2.hp.own.1, r1, r2⟩ (List.Perm.cons O r3)
  obtain ⟨A, g1, g2⟩ := c2.unbun
  have c3 : HpOK Γ.h0 Γ.G0 Γ.O0 ((l.map g ++ [g x]) ++ rest2) hh G ((A ++ [X]) ++ Os2) := by
    rw [List.append_assoc, List.append_assoc]; exact g2
  have c4 := c3.bun (g1.app (r1 := l.map g) (r2 := [g x]) ⟨r1, trivial⟩) r2
  rw [show l.map g ++ [g x] = (l ++ [x]).map g by simp] at c4
  exact h.h env hh G _ ⟨c4, cn.env, cn.nf⟩
theorem CA.bunPut {y : Code} {i : Nat} {x : α} {rest1 rest2 : List Res} (tk1 : Take o (bunR ((l.eraseIdx i).map g)) rest1) (tk2 : Take rest1 (g x) rest2) (hi : i < l.length) (h : CA Γ k y e (bunR ((l.set i x).map g) :: rest2)) : CA Γ k y e o := by
  refine ⟨fun env hh G Os cn => ?_⟩
  obtain ⟨O, Os', cn2⟩ := cn.take tk1
  obtain ⟨X, Os2, r1, r2, r3⟩ := tk2.own cn2.hp.own.2
  have c2 : HpOK Γ.h0 Γ.G0 Γ.O0 (bunR ((l.eraseIdx i).map g) :: g x :: rest2) hh G (O :: X :: Os2) := cn2.hp.perm ⟨cn2.hp.own.1, r1, r2⟩ (List.Perm.cons O r3)
  obtain ⟨A, g1, g2⟩ := c2.unbun
  have herase : (l.eraseIdx i).map g = (l.take i).map g ++ (l.drop (i + 1)).map g := by rw [List.eraseIdx_eq_take_drop_succ, List.map_append]
  have hset : (l.set i x).map g = (l.take i).map g ++ g x :: (l.drop (i + 1)).map g := by
    rw [List.set_eq_take_append_cons_drop, if_pos hi, List.map_append, List.map_cons]
  rw [herase] at g1 g2
  obtain ⟨B, C, rfl, b1, b2⟩ := OwnL.split g1
  have hp : (B ++ C ++ X :: Os2).Perm ((B ++ X :: C) ++ Os2) := by
    rw [List.append_assoc, List.append_assoc, List.cons_append]
    exact List.Perm.append_left B List.perm_middle
  have c3 : HpOK Γ.h0 Γ.G0 Γ.O0 ((l.set i x).map g ++ rest2) hh G ((B ++ X :: C) ++ Os2) := g2.perm (by rw [hset]; exact OwnL.app (OwnL.app b1 (show OwnL hh G (g x :: (l.drop (i + 1)).map g) (X :: C) from ⟨r1, b2⟩)) r2) hp
  have c4 := c3.bun (by rw [hset]; exact OwnL.app b1 (show OwnL hh G (g x :: (l.drop (i + 1)).map g) (X :: C) from ⟨r1, b2⟩)) r2
  exact h.h env hh G _ ⟨c4, cn.env, cn.nf⟩
theorem CA.bunNil {y : Code} (g : α → Res) (h : CA Γ k y e (bunR (([] : List α).map g) :: o)) : CA Γ k y e o := by
  refine ⟨fun env hh G Os cn => ?_⟩
  have c4 : HpOK Γ.h0 Γ.G0 Γ.O0 (bunR (([] : List α).map g) :: o) hh G (U [] :: Os) := HpOK.bun (rs := []) (Os1 := []) cn.hp trivial cn.hp.own
  exact h.h env hh G _ ⟨c4, cn.env, cn.nf⟩
end
end Go.CF
namespace Go.Proofs.YtmllihbhphnolaaGreat
open Go Go.CF
set_option maxRecDepth 20000
theorem cloneK_o (l : List MkS) (hl : l.length ≤ 1000000000) : CallO Tryz.prog 193 [mks l] 125 4 l mkC := by
  refine CallA.of pg ord193 Tryz.func193 rfl Tryz.ntmps193 Tryz.results193 rfl fun h0 G0 O0 => ?_
  repeat' (first | refine Sp.h ?_ | refine Lk.r rfl ?_ | refine Rf.mk rfl ?_ | (refine Bd.mk ?_ ?_ <;> intro _) | (apply Om.mk; (focus first | omega | (simp <;> omega))) | (refine Im.mk ?_; intro _) | (refine All.mk ?_; intro _) | (apply TkA.r; (focus (repeat (first | exact Take.here | apply Take.there)))) | refine Ce.l rfl ?_ | (apply Fk.r; (focus (repeat (first | exact FillA.nil | (apply FillA.agg; (focus rfl); (focus rfl); (focus (repeat (first | exact SetAs.z | (apply SetAs.c; (focus (repeat (first | assumption | exact SetA.z | apply SetA.s)))))))) | (apply FillA.one; (focus rfl); (focus infer_instance); (focus (repeat (first | assumption | exact SetA.z | apply SetA.s)))))))) | (apply Nm.r; (focus repeat (first | apply LN.cons | exact LN.nil))) | refine Rf.mk ⟨rfl, rfl⟩ ?_ | refine Rf.mk ⟨rfl, rfl, rfl⟩ ?_ | refine Mp.same ?_ | fail)
  · rename_i b hb hbt
    have hl0 : l = [] := Decidable.byContradiction fun h => by rw [hb h] at hbt; cases hbt
    subst hl0
    exact ⟨_, _, .one (.nils (.nil (by (repeat (first | exact Subl.nil | refine Subl.cons (by (repeat (first | exact Take.here | apply Take.there))) ?_))))), _, rfl, rfl⟩
  · repeat' (first | fail)
    exact ⟨_, _, .one (.same (.nil (by (repeat (first | exact Subl.nil | refine Subl.cons (by (repeat (first | exact Take.here | apply Take.there))) ?_))))), _, rfl, rfl⟩
theorem cloneG_o (l : List MgS) (hl : l.length ≤ 1000000000) : CallO Tryz.prog 192 [mgs l] 123 3 l mgC := by
  refine CallA.of pg ord192 Tryz.func192 rfl Tryz.ntmps192 Tryz.results192 rfl fun h0 G0 O0 => ?_
  repeat' (first | refine Sp.h ?_ | refine Lk.r rfl ?_ | refine Rf.mk rfl ?_ | (refine Bd.mk ?_ ?_ <;> intro _) | (apply Om.mk; (focus first | omega | (simp <;> omega))) | (refine Im.mk ?_; intro _) | (refine All.mk ?_; intro _) | (apply TkA.r; (focus (repeat (first | exact Take.here | apply Take.there)))) | refine Ce.l rfl ?_ | (apply Fk.r; (focus (repeat (first | exact FillA.nil | (apply FillA.agg; (focus rfl); (focus rfl); (focus (repeat (first | exact SetAs.z | (apply SetAs.c; (focus (repeat (first | assumption | exact SetA.z | apply SetA.s)))))))) | (apply FillA.one; (focus rfl); (focus infer_instance); (focus (repeat (first | assumption | exact SetA.z | apply SetA.s)))))))) | (apply Nm.r; (focus repeat (first | apply LN.cons | exact LN.nil))) | refine Rf.mk ⟨rfl, rfl⟩ ?_ | refine Rf.mk ⟨rfl, rfl, rfl⟩ ?_ | refine Mp.same ?_ | fail)
  · rename_i b hb hbt
    have hl0 : l = [] := Decidable.byContradiction fun h => by rw [hb h] at hbt; cases hbt
    subst hl0
    exact ⟨_, _, .one (.nils (.nil (by (repeat (first | exact Subl.nil | refine Subl.cons (by (repeat (first | exact Take.here | apply Take.there))) ?_))))), _, rfl, rfl⟩
  · repeat' (first | fail)
    exact ⟨_, _, .one (.same (.nil (by (repeat (first | exact Subl.nil | refine Subl.cons (by (repeat (first | exact Take.here | apply Take.there))) ?_))))), _, rfl, rfl⟩
/-- What is known of a cell, in a list of one's own, with marks of one's own. -/
structure MgE where
  put : Bool
  drop : Bool
  w : Value
  marks : List MkS
def MgE.g (e : MgE) : MgS := ⟨e.put, e.drop, e.marks⟩
def mgeC (e : MgE) : List AV := [bl e.put, bl e.drop, .ow e.w]
abbrev mgeR (e : MgE) : Res := arrR e.w 125 4 e.marks mkC
def ogC (x : Bool × Bool × AV) : List AV := [bl x.1, bl x.2.1, x.2.2]
instance {a b : Bool} {c : AV} : Inv ogC [bl a, bl b, c] (a, b, c) := ⟨rfl⟩
def ogE (e : MgE) : Bool × Bool × AV := (e.put, e.drop, .ow e.w)
def ogG (g : MgS) : Bool × Bool × AV := (g.put, g.drop, mks g.marks)
theorem ogE_map (l : List MgE) : l.map mgeC = (l.map ogE).map ogC := by rw [List.map_map]; rfl
theorem ogG_map (l : List MgS) : (l.map ogG).map ogC = l.map mgC := by rw [List.map_map]; rfl
abbrev outR (v : Value) (L : List MgE) : List Res := [arrR v 123 3 L mgeC, bunR (L.map mgeR)]
theorem clone34_a (l : List MgS) (hl : l.length ≤ 1000000) (hm : ∀ g ∈ l, g.marks.length ≤ 1000000) :
    CallA Tryz.prog 187 [mgs l] [] fun r own => ∃ v L, r = .ow v ∧ L.map MgE.g = l ∧ own = outR v L := by
  have hc := cloneG_o l (by omega)
  refine CallA.of pg ord187 Tryz.func187 rfl Tryz.ntmps187 Tryz.results187 rfl fun h0 G0 O0 => ?_
  repeat' (first | refine Sp.h ?_ | refine Lk.r rfl ?_ | refine Rf.mk rfl ?_ | fail)
  (refine Cl.use (hc) (by repeat' (first | exact Lend.nil | apply Lend.keep | fail)) .nil rfl ?_; rintro _ _ ⟨_, rfl, rfl⟩)
  repeat' (first | refine Sp.h ?_ | refine Lk.r rfl ?_ | refine Rf.mk rfl ?_ | (apply TkA.r; (focus (repeat (first | exact Take.here | apply Take.there)))) | fail)
  rename_i v
  apply CA.retype (m := l.map ogG) (g := ogC)
  focus (repeat (first | exact Take.here | apply Take.there))
  focus exact ogG_map l
  refine CA.bunNil mgeR ?_
  refine CA.loop (fun x : Nat × List MgE => ⟨[(3, .ow v), (8, it (l.length : Nat)), (9, it x.1)], [arrR v 123 3 (x.2.map ogE ++ (l.drop x.1).map ogG) ogC, bunR (x.2.map mgeR)]⟩)
    (fun x => x.1 ≤ l.length ∧ x.2.map MgE.g = l.take x.1) (fun x => l.length - x.1) (0, []) ⟨by (repeat (first | exact trivial | refine ⟨rfl, ?_⟩)), by (repeat (first | exact Subl.nil | refine Subl.cons (by (repeat (first | exact Take.here | apply Take.there))) ?_))⟩ ⟨Nat.zero_le _, by simp⟩ ?_
  rintro ⟨i, D⟩ ⟨hi, hD⟩
  simp only at hi hD
  simp only
  by_cases hin : i < l.length
  · obtain ⟨g, hg⟩ := get_of hin
    have hgm := hm g (List.mem_of_getElem? hg)
    have hDl : D.length = i := by have := congrArg List.length hD; simp at this; omega
    have hdr : (l.drop i).map ogG = ogG g :: (l.drop (i + 1)).map ogG := by
      have h9 := List.drop_eq_getElem_cons hin
      rw [(List.getElem?_eq_some_iff.1 hg).2] at h9
      rw [h9, List.map_cons]
    have hrow : (D.map ogE ++ (l.drop i).map ogG)[i]? = some (g.put, g.drop, mks g.marks) := by
      rw [hdr, List.getElem?_append_right (by simp; omega)]; simp [hDl, ogG]
    have hcl := cloneK_o g.marks (by omega)
    repeat' (first | refine Sp.h ?_ | refine Lk.r rfl ?_ | refine Rf.mk rfl ?_ | (apply Bd.t; (focus (first | assumption | omega | rfl))) | (apply TkA.r; (focus (repeat (first | exact Take.here | apply Take.there)))) | (apply Ix.q; (focus exact rfl); (focus assumption)) | (apply At.r; (focus assumption)) | fail)
    (refine Cl.use (hcl) (by repeat' (first | exact Lend.nil | apply Lend.keep | fail)) .nil rfl ?_; rintro _ _ ⟨_, rfl, rfl⟩)
    (repeat' (first | (show CA _ _ (Code.region 6 _ _) _ _; apply Stopped.out) | refine Sp.h ?_ | refine Lk.r rfl ?_ | refine Rf.mk rfl ?_ | (apply TkA.r; (focus (repeat (first | exact Take.here | apply Take.there)))) | (apply Ix.q; (focus exact rfl); (focus assumption)) | (apply At.r; (focus assumption)) | (apply SetAk.r; (focus (repeat (first | assumption | exact SetA.z | apply SetA.s)))) | (apply Up.inv; (focus repeat (first | apply LN.cons | exact LN.nil)); (focus infer_instance)) | fail)); any_goals apply Stopped.mk
    rename_i w2
    have hset : (D.map ogE ++ (l.drop i).map ogG).set i (g.put, g.drop, .ow w2) = (D ++ [(MgE.mk g.put g.drop w2 g.marks)]).map ogE ++ (l.drop (i + 1)).map ogG := by
      rw [hdr, List.set_append, if_neg (by simp; omega)]
      simp [hDl, ogE]
    rw [hset]
    apply CA.bunPush (g := mgeR) (x := (MgE.mk g.put g.drop w2 g.marks))
    focus (repeat (first | exact Take.here | apply Take.there))
    focus (repeat (first | exact Take.here | apply Take.there))
    repeat' (first | refine Sp.h ?_ | refine Lk.r rfl ?_ | refine Rf.mk rfl ?_ | (apply Ov.n; (focus first | omega | (simp <;> omega))) | fail)
    exact PA.lp (i + 1, D ++ [(MgE.mk g.put g.drop w2 g.marks)]) ⟨by (repeat (first | exact trivial | refine ⟨rfl, ?_⟩)), by (repeat (first | exact Subl.nil | refine Subl.cons (by (repeat (first | exact Take.here | apply Take.there))) ?_))⟩ ⟨⟨hin, by simp only; rw [List.map_append, hD, List.take_add_one, hg]; rfl⟩, by simp only; omega⟩
  · have hie : i = l.length := by omega
    subst hie
    rw [List.take_length] at hD
    rw [List.drop_length, List.map_nil, List.append_nil]
    (repeat' (first | (show CA _ _ (Code.region 7 _ _) _ _; apply Stopped.out) | refine Sp.h ?_ | refine Lk.r rfl ?_ | refine Rf.mk rfl ?_ | (apply Bd.f; (focus (first | assumption | omega | exact Bool.false_ne_true))) | fail)); any_goals apply Stopped.mk
    apply CA.retype (m := D) (g := mgeC)
    focus (repeat (first | exact Take.here | apply Take.there))
    focus exact ogE_map D
    repeat' (first | refine Sp.h ?_ | refine Lk.r rfl ?_ | refine Rf.mk rfl ?_ | (apply Nm.r; (focus repeat (first | apply LN.cons | exact LN.nil))) | fail)
    exact ⟨_, _, .one (.same (.nil (by (repeat (first | exact Subl.nil | refine Subl.cons (by (repeat (first | exact Take.here | apply Take.there))) ?_))))), _, D, rfl, hD, rfl⟩
end Go.Proofs.YtmllihbhphnolaaGreat
namespace Go.Proofs.YtmllihbhphnolaaGreat
open Go Go.CF
set_option maxRecDepth 20000
instance {a b : AV} [ha : Flat a] [hb : Flat b] : Flat (.tup [a, b]) := ⟨by
  rintro h h' G G' v ⟨vs, rfl, hr⟩
  match vs, hr with
  | [x, y], ⟨h1, h2, _⟩ => exact ⟨[x, y], rfl, ha.h _ _ _ _ _ h1, hb.h _ _ _ _ _ h2, trivial⟩⟩
/-- Where a mark goes in a list. -/
noncomputable def posK (l : List MkS) (x : MkS) : Nat := idxN (fun y => decide (¬ LtK y x)) l
def MonoK (l : List MkS) (x : MkS) : Prop := ∀ (i j : Nat) (a b : MkS), i ≤ j → l[i]? = some a → l[j]? = some b → LtK b x → LtK a x
theorem posK_of {l : List MkS} {x : MkS} {n : Nat} (hn : n ≤ l.length) (h1 : ∀ (q : Nat) y, q < n → l[q]? = some y → LtK y x) (h2 : ∀ (q : Nat) y, n ≤ q → l[q]? = some y → ¬ LtK y x) : posK l x = n := by
  by_cases hnl : n < l.length
  · obtain ⟨y, hy⟩ := get_of hnl
    exact idxN_of hy (decide_eq_true (h2 n y (Nat.le_refl _) hy)) fun j z hj hz => decide_eq_false (fun h => h (h1 j z hj hz))
  · have hne : n = l.length := by omega
    rw [hne]
    exact idxN_none fun y hy => by
      obtain ⟨j, hj⟩ := List.getElem?_of_mem hy
      exact decide_eq_false (fun h => h (h1 j y (by have := (List.getElem?_eq_some_iff.1 hj).1; omega) hj))
noncomputable def fndK (l : List MkS) (x : MkS) : Bool := decide (∃ y, l[posK l x]? = some y ∧ cmpK y x = 0)
theorem binK_p (l : List MkS) (x : MkS) (hm : MonoK l x) (hl : l.length ≤ 1000000) :
    CallP Tryz.prog 283 [mks l, mA x, .fn 277 []] (.tup [it (posK l x : Nat), bl (fndK l x)]) := by
  refine CallA.of pg ord283 Tryz.func283 rfl Tryz.ntmps283 Tryz.results283 rfl fun h0 G0 O0 => ?_
  repeat' (first | refine Sp.h ?_ | refine Lk.r rfl ?_ | refine Rf.mk rfl ?_ | (refine Im.mk ?_; intro _) | (refine All.mk ?_; intro _) | fail)
  refine CA.loop (fun p : Nat × Nat => ⟨[(0, mks l), (2, .fn 277 []), (4, pm _), (8, it (l.length : Nat)), (9, it p.1), (10, it p.2)], [blkR _ 125 (mkC x)]⟩)
    (fun p => p.1 ≤ p.2 ∧ p.2 ≤ l.length ∧ (∀ (q : Nat) y, q < p.1 → l[q]? = some y → LtK y x) ∧ ∀ (q : Nat) y, p.2 ≤ q → l[q]? = some y → ¬ LtK y x) (fun p => p.2 - p.1) (0, l.length) ⟨by (repeat (first | exact trivial | refine ⟨rfl, ?_⟩)), by (repeat (first | exact Subl.nil | refine Subl.cons (by (repeat (first | exact Take.here | apply Take.there))) ?_))⟩
    ⟨Nat.zero_le _, Nat.le_refl _, fun q y h => absurd h (Nat.not_lt_zero q), fun q y h h' => by have := (List.getElem?_eq_some_iff.1 h').1; simp only at h; omega⟩ ?_
  rintro ⟨i, j⟩ ⟨h1, h2, h3, h4⟩
  simp only at h1 h2 h3 h4
  simp only
  by_cases hij : i < j
  · obtain ⟨y, hy⟩ := get_of (l := l) (i := (i + j) / 2) (by omega)
    have hcm := cmpK_neg (a := y) (b := x)
    have e1 : ((i : Int) + (j : Int)) / 2 = (((i + j) / 2 : Nat) : Int) := by omega
    repeat' (first | refine Sp.h ?_ | refine Lk.r rfl ?_ | refine Rf.mk rfl ?_ | (apply Bd.t; (focus (first | assumption | omega | rfl))) | (refine Bd.mk ?_ ?_ <;> intro _) | refine OpK.r rfl ?_ | (apply TkB.r; (focus (repeat (first | exact Take.here | apply Take.there)))) | (apply Ix.q; (focus exact rfl); (focus assumption)) | refine Ch.l ⟨rfl, rfl⟩ ?_ | (apply CA.draw; (focus rfl); (focus kernel_rfl); (focus kernel_rfl); (focus repeat' (first | apply ON.one | exact ON.done | exact ON.none | apply ON.alt)); (focus rfl)) | (apply Ov.n; (focus first | omega | (simp <;> omega))) | (apply Cvk.i64; (focus rfl); (focus omega)) | (apply Cvk.u64; (focus rfl); (focus omega)) | fail | (apply Cl.p (compareK_p _ _); (focus repeat' (first | exact Lend.nil | apply Lend.keep | fail))))
    · rename_i hlt
      have hyx := hcm.1 hlt
      exact PA.lp ((i + j) / 2 + 1, j) ⟨by (repeat (first | exact trivial | refine ⟨rfl, ?_⟩)), by (repeat (first | exact Subl.nil | refine Subl.cons (by (repeat (first | exact Take.here | apply Take.there))) ?_))⟩ ⟨⟨by simp only; omega, h2, fun q z hq hz => hm q ((i + j) / 2) z y (by simp only at hq; omega) hz hy hyx, h4⟩, by simp only; omega⟩
    · rename_i hlt
      have hyx : ¬ LtK y x := fun h => hlt (hcm.2 h)
      exact PA.lp (i, (i + j) / 2) ⟨by (repeat (first | exact trivial | refine ⟨rfl, ?_⟩)), by (repeat (first | exact Subl.nil | refine Subl.cons (by (repeat (first | exact Take.here | apply Take.there))) ?_))⟩ ⟨⟨by simp only; omega, by simp only; omega, h3, fun q z hq hz h => hyx (hm ((i + j) / 2) q y z (by simp only at hq; omega) hy hz h)⟩, by simp only; omega⟩
  · have hije : i = j := by omega
    subst hije
    have hpos := posK_of h2 h3 h4
    by_cases hin : i < l.length
    · obtain ⟨y, hy⟩ := get_of hin
      repeat' (first | refine Sp.h ?_ | refine Lk.r rfl ?_ | refine Rf.mk rfl ?_ | (apply Bd.t; (focus (first | assumption | omega | rfl))) | (apply Bd.f; (focus (first | assumption | omega | exact Bool.false_ne_true))) | refine OpK.r rfl ?_ | (apply TkB.r; (focus (repeat (first | exact Take.here | apply Take.there)))) | (apply Ix.q; (focus exact rfl); (focus assumption)) | refine Ch.l ⟨rfl, rfl⟩ ?_ | (apply Nm.r; (focus repeat (first | apply LN.cons | exact LN.nil))) | (apply CA.draw; (focus rfl); (focus kernel_rfl); (focus kernel_rfl); (focus repeat' (first | apply ON.one | exact ON.done | exact ON.none | apply ON.alt)); (focus rfl)) | fail | (apply Cl.p (compareK_p _ _); (focus repeat' (first | exact Lend.nil | apply Lend.keep | fail))))
      refine Fin.p rfl ?_
      rw [hpos]
      have : fndK l x = decide (cmpK y x = 0) := decide_eq_decide.2 (by rw [hpos, hy]; simp)
      rw [this]
    · repeat' (first | refine Sp.h ?_ | refine Lk.r rfl ?_ | refine Rf.mk rfl ?_ | (apply Bd.f; (focus (first | assumption | omega | exact Bool.false_ne_true))) | refine OpK.r rfl ?_ | (apply Nm.r; (focus repeat (first | apply LN.cons | exact LN.nil))) | (apply CA.draw; (focus rfl); (focus kernel_rfl); (focus kernel_rfl); (focus repeat' (first | apply ON.one | exact ON.done | exact ON.none | apply ON.alt)); (focus rfl)) | fail | (apply Cl.p (compareK_p _ _); (focus repeat' (first | fail))))
      refine Fin.p rfl ?_
      rw [hpos]
      have : fndK l x = false := decide_eq_false (by rw [hpos]; rintro ⟨y, hy, _⟩; have := (List.getElem?_eq_some_iff.1 hy).1; omega)
      rw [this]
end Go.Proofs.YtmllihbhphnolaaGreat
namespace Go.Proofs.YtmllihbhphnolaaGreat
open Go Go.CF
set_option maxRecDepth 20000
theorem insertV_b {β : Type} (w u : Value) (L : List (List Value)) (r : List Value) (r' : β) (g : β → List AV) (hr : g r' = valR r) (i : Nat) (hi : i ≤ L.length) (hl : L.length ≤ 1000000) :
    CallA Tryz.prog 284 [.ow w, it i, .ow u] [arrR w 125 4 L valR, arrR u 125 4 [r'] g] fun q own => ∃ w', q = .ow w' ∧ own = [arrR w' 125 4 (L.take i ++ r :: L.drop i) valR] := by
  refine ⟨fun h G Os vs h1 h2 => ?_⟩
  match Os, h2.own with
  | [O1, O2], ⟨k1, ⟨ho, rows, hw, hrr⟩, _⟩ =>
    exact (insertV_a w u L r i hi hl).run h G [O1, O2] vs h1 ⟨⟨k1, ⟨ho, rows, hw, hrr.map (by simp [hr])⟩, trivial⟩, h2.g, h2.g0, h2.o, h2.d, h2.fp⟩
/-- An update of a cell that is under way. -/
def chC (kp : AV) (e : EvS) (m : MkS) : List AV := [kp, iv e.rep, iv e.num, iv e.time, ints e.past, iv e.kind, iv e.action, iv e.gk, iv e.gi, iv e.ge, iv e.ga, iv e.to, iv e.place, iv e.serial, it m.rep, it m.num, it m.time, it m.val]
noncomputable instance (x y : MkS) : Decidable (Nm x y) := Classical.propDecidable _
theorem add1_p (kp : AV) (e : EvS) (m x : MkS) : CallP Tryz.prog 282 [mA x, .ad (chC kp e m) 0] (bl (decide (Nm x m))) := by
  refine CallA.of pg ord282 Tryz.func282 rfl Tryz.ntmps282 Tryz.results282 rfl fun h0 G0 O0 => ?_
  repeat' (first | refine Sp.h ?_ | refine Lk.r rfl ?_ | refine Rf.mk rfl ?_ | refine OpK.r rfl ?_ | (refine All.mk ?_; intro _) | (apply TkB.r; (focus (repeat (first | exact Take.here | apply Take.there)))) | refine Ch.l ⟨rfl, rfl⟩ ?_ | refine Ch.r ?_ | (apply Nm.r; (focus repeat (first | apply LN.cons | exact LN.nil))) | (apply Il.r; (focus repeat (first | apply ILit.cons | exact ILit.nil))) | (apply Kf.mk; (focus kernel_rfl)) | (apply CA.draw; (focus rfl); (focus kernel_rfl); (focus kernel_rfl); (focus repeat' (first | apply ON.one | exact ON.done | exact ON.none | apply ON.alt)); (focus rfl)) | fail | (apply Cl.p (dot_p _); (focus repeat' (first | exact Lend.nil | apply Lend.keep | fail))))
  refine Fin.p rfl (vb (decide_eq_decide.2 ?_))
  unfold Nm
  simp
noncomputable def insK (l : List MkS) (x : MkS) : List MkS := l.take (posK l x) ++ x :: l.drop (posK l x)
noncomputable def addF (l : List MkS) (x : MkS) : Int × List MkS := if HasNm l x then (6, l) else if 1024 ≤ l.length then (8, l) else (0, insK l x)
theorem posK_le (l : List MkS) (x : MkS) : posK l x ≤ l.length := idxN_le _ l
theorem insK_map (l : List MkS) (x : MkS) : (insK l x).map mkV = (l.map mkV).take (posK l x) ++ mkV x :: (l.map mkV).drop (posK l x) := by
  simp [insK, List.map_take, List.map_drop]
theorem has_idx (l : List MkS) (m : MkS) : idxN (fun x => decide (Nm x m)) l < l.length ↔ HasNm l m := idxN_lt.trans (by simp [HasNm])
set_option maxHeartbeats 2000000 in
theorem add_a (v : Value) (i : Nat) (e : EvS) (m : MkS) (L : List MgE) (x : MgE) (hx : L[i]? = some x) (hm : MonoK x.marks m) (hl : x.marks.length ≤ 1024) :
    CallA Tryz.prog 250 [.agg (chC (.oe v 3 i 0) e m)] [arrR v 123 3 L mgeC, mgeR x] fun r own => ∃ w', r = it (addF x.marks m).1 ∧ own = [arrR v 123 3 (L.set i ⟨x.put, x.drop, w', (addF x.marks m).2⟩) mgeC, arrR w' 125 4 (addF x.marks m).2 mkC] := by
  have hcon := containsK_p (add1_p (.oe v 3 i 0) e m) rfl x.marks
  have hbin := binK_p x.marks m hm (by omega)
  have hsame : L.set i ⟨x.put, x.drop, x.w, x.marks⟩ = L := by
    have := (List.getElem?_eq_some_iff.1 hx)
    apply List.ext_getElem?
    intro j
    rw [List.getElem?_set]
    split
    · rename_i hj; subst hj; rw [if_pos this.1, hx]
    · rfl
  refine CallA.of pg ord250 Tryz.func250 rfl Tryz.ntmps250 Tryz.results250 rfl fun h0 G0 O0 => ?_
  repeat' (first | refine Sp.h ?_ | refine Lk.r rfl ?_ | refine Rf.mk rfl ?_ | (refine All.mk ?_; intro _) | (apply TkA.r; (focus (repeat (first | exact Take.here | apply Take.there)))) | (apply TkB.r; (focus (repeat (first | exact Take.here | apply Take.there)))) | (apply At.r; (focus assumption)) | fail)
  (apply Cl.lend (hcon); (focus repeat' (first | exact Lend.nil | apply Lend.keep | (apply Lend.lend; (focus (repeat (first | exact Take.here | apply Take.there))); (focus first | omega | (simp; omega))) | (apply Lend.cell; (focus (repeat (first | exact Take.here | apply Take.there)))) | refine Lend.fn ?_ ?_ | fail)))
  have hid := has_idx x.marks m
  by_cases hhas : HasNm x.marks m
  · have h6 : addF x.marks m = (6, x.marks) := if_pos hhas
    have hlt := hid.2 hhas
    rw [h6]
    repeat' (first | refine Sp.h ?_ | refine Lk.r rfl ?_ | refine Rf.mk rfl ?_ | (apply Bd.t; (focus (first | assumption | omega | rfl))) | (apply Nm.r; (focus repeat (first | apply LN.cons | exact LN.nil))) | fail)
    exact ⟨_, _, .one (.same (.nil (by (repeat (first | exact Subl.nil | refine Subl.cons (by (repeat (first | exact Take.here | apply Take.there))) ?_))))), x.w, rfl, congrArg (fun z => [arrR v 123 3 z mgeC, mgeR x]) hsame.symm⟩
  · have hlt : ¬ idxN (fun x => decide (Nm x m)) x.marks < x.marks.length := fun h => hhas (hid.1 h)
    by_cases hbig : 1024 ≤ x.marks.length
    · have h8 : addF x.marks m = (8, x.marks) := by rw [addF, if_neg hhas, if_pos hbig]
      rw [h8]
      repeat' (first | refine Sp.h ?_ | refine Lk.r rfl ?_ | refine Rf.mk rfl ?_ | (apply Bd.t; (focus (first | assumption | omega | rfl))) | (apply Bd.f; (focus (first | assumption | omega | exact Bool.false_ne_true))) | (apply TkA.r; (focus (repeat (first | exact Take.here | apply Take.there)))) | (apply TkB.r; (focus (repeat (first | exact Take.here | apply Take.there)))) | (apply At.r; (focus assumption)) | (apply Nm.r; (focus repeat (first | apply LN.cons | exact LN.nil))) | fail)
      exact ⟨_, _, .one (.same (.nil (by (repeat (first | exact Subl.nil | refine Subl.cons (by (repeat (first | exact Take.here | apply Take.there))) ?_))))), x.w, rfl, congrArg (fun z => [arrR v 123 3 z mgeC, mgeR x]) hsame.symm⟩
    · have h0 : addF x.marks m = (0, insK x.marks m) := by rw [addF, if_neg hhas, if_neg hbig]
      rw [h0]
      repeat' (first | refine Sp.h ?_ | refine Lk.r rfl ?_ | refine Rf.mk rfl ?_ | (apply Bd.f; (focus (first | assumption | omega | exact Bool.false_ne_true))) | refine OpK.r rfl ?_ | (apply TkA.r; (focus (repeat (first | exact Take.here | apply Take.there)))) | (apply TkB.r; (focus (repeat (first | exact Take.here | apply Take.there)))) | (apply At.r; (focus assumption)) | refine Ch.r ?_ | (apply CA.draw; (focus rfl); (focus kernel_rfl); (focus kernel_rfl); (focus repeat' (first | apply ON.one | exact ON.done | exact ON.none | apply ON.alt)); (focus rfl)) | fail)
      (apply Cl.lend (hbin); (focus repeat' (first | exact Lend.nil | apply Lend.keep | (apply Lend.lend; (focus (repeat (first | exact Take.here | apply Take.there))); (focus first | omega | (simp; omega))) | fail)))
      (repeat' (first | (show CA _ _ (Code.region 6 _ _) _ _; apply Stopped.out) | refine Sp.h ?_ | refine Lk.r rfl ?_ | refine OpK.r rfl ?_ | fail)); any_goals apply Stopped.mk
      apply CA.retype (v := x.w) (m := x.marks.map mkV) (g := valR)
      focus (repeat (first | exact Take.here | apply Take.there))
      focus exact mkV_map x.marks
      repeat' (first | refine Sp.h ?_ | refine Lk.r rfl ?_ | refine Rf.mk rfl ?_ | refine OpK.r rfl ?_ | (refine All.mk ?_; intro _) | (apply TkA.r; (focus (repeat (first | exact Take.here | apply Take.there)))) | (apply TkB.r; (focus (repeat (first | exact Take.here | apply Take.there)))) | (apply At.r; (focus assumption)) | refine Ch.r ?_ | (apply Fk.r; (focus (repeat (first | exact FillA.nil | (apply FillA.agg; (focus rfl); (focus rfl); (focus (repeat (first | exact SetAs.z | (apply SetAs.c; (focus (repeat (first | assumption | exact SetA.z | apply SetA.s)))))))) | (apply FillA.one; (focus rfl); (focus infer_instance); (focus (repeat (first | assumption | exact SetA.z | apply SetA.s)))))))) | refine Rf.mk ⟨rfl, rfl, rfl⟩ ?_ | (apply CA.draw; (focus rfl); (focus kernel_rfl); (focus kernel_rfl); (focus repeat' (first | apply ON.one | exact ON.done | exact ON.none | apply ON.alt)); (focus rfl)) | exact trivial | apply RA'.both | fail)
      all_goals
        rename_i u
        have hins := insertV_b x.w u (x.marks.map mkV) (mkV m) (mkC m) id rfl (posK x.marks m) (by rw [List.length_map]; exact posK_le _ _) (by rw [List.length_map]; omega)
        rw [← insK_map] at hins
        (apply Cl.use (hins); (focus repeat' (first | exact Lend.nil | apply Lend.keep | fail)); (focus (repeat (first | exact Takes.nil | (apply Takes.cons; (focus (repeat (first | exact Take.here | apply Take.there))))))); (focus rfl))
        rintro _ _ ⟨w', rfl, rfl⟩
        have inv : Inv mgeC [bl x.put, bl x.drop, .ow w'] ⟨x.put, x.drop, w', insK x.marks m⟩ := ⟨rfl⟩
        (repeat' (first | (show CA _ _ (Code.region 7 _ _) _ _; apply Stopped.out) | refine Sp.h ?_ | refine Lk.r rfl ?_ | refine Rf.mk rfl ?_ | refine OpK.r rfl ?_ | (apply TkA.r; (focus (repeat (first | exact Take.here | apply Take.there)))) | (apply TkB.r; (focus (repeat (first | exact Take.here | apply Take.there)))) | (apply At.r; (focus assumption)) | (apply SetAk.r; (focus (repeat (first | assumption | exact SetA.z | apply SetA.s)))) | (apply Up.inv; (focus repeat (first | apply LN.cons | exact LN.nil)); (focus infer_instance)) | fail)); any_goals apply Stopped.mk
        apply CA.retype (v := w') (m := insK x.marks m) (g := mkC)
        focus (repeat (first | exact Take.here | apply Take.there))
        focus exact (mkV_map _).symm
        repeat' (first | refine Sp.h ?_ | refine Lk.r rfl ?_ | refine Rf.mk rfl ?_ | (apply Nm.r; (focus repeat (first | apply LN.cons | exact LN.nil))) | fail)
        exact ⟨_, _, .one (.same (.nil (by (repeat (first | exact Subl.nil | refine Subl.cons (by (repeat (first | exact Take.here | apply Take.there))) ?_))))), w', rfl, rfl⟩
end Go.Proofs.YtmllihbhphnolaaGreat
namespace Go.Proofs.YtmllihbhphnolaaGreat
open Go Go.CF
set_option maxRecDepth 20000
/-- What stands behind an update of a cell. -/
abbrev ChO (v : Value) (i : Nat) (L : List MgE) (p d : Bool) (l : List MkS) (own : List Res) : Prop := ∃ w', own = [arrR v 123 3 (L.set i ⟨p, d, w', l⟩) mgeC, arrR w' 125 4 l mkC]
noncomputable def fgK (past : List Int) (l : List MkS) : List MkS := l.filter fun x => !decide (HasC past x.rep x.num)
theorem forget1_p (kp : AV) (e : EvS) (m x : MkS) : CallP Tryz.prog 295 [mA x, .ad (chC kp e m) 0] (bl (decide (HasC e.past x.rep x.num))) := by
  refine CallA.of pg ord295 Tryz.func295 rfl Tryz.ntmps295 Tryz.results295 rfl fun h0 G0 O0 => ?_
  repeat' (first | refine Sp.h ?_ | refine Lk.r rfl ?_ | refine Rf.mk rfl ?_ | refine OpK.r rfl ?_ | (refine All.mk ?_; intro _) | (apply TkB.r; (focus (repeat (first | exact Take.here | apply Take.there)))) | refine Ch.l ⟨rfl, rfl⟩ ?_ | (apply Nm.r; (focus repeat (first | apply LN.cons | exact LN.nil))) | (apply CA.draw; (focus rfl); (focus kernel_rfl); (focus kernel_rfl); (focus repeat' (first | apply ON.one | exact ON.done | exact ON.none | apply ON.alt)); (focus rfl)) | fail | (apply Cl.p (dot_p _); (focus repeat' (first | exact Lend.nil | apply Lend.keep | fail))) | (apply Cl.p (hasC_p _ _ _); (focus repeat' (first | exact Lend.nil | apply Lend.keep | fail))))
  exact Fin.p rfl rfl
theorem forget_a (v : Value) (i : Nat) (e : EvS) (m : MkS) (L : List MgE) (x : MgE) (hx : L[i]? = some x) (hl : x.marks.length ≤ 1024) :
    CallA Tryz.prog 285 [.agg (chC (.oe v 3 i 0) e m)] [arrR v 123 3 L mgeC, mgeR x] fun _ own => ChO v i L x.put x.drop (fgK e.past x.marks) own := by
  have hdel := deleteK_a (forget1_p (.oe v 3 i 0) e m) rfl x.w x.marks (by omega)
  refine CallA.of pg ord285 Tryz.func285 rfl Tryz.ntmps285 Tryz.results285 rfl fun h0 G0 O0 => ?_
  (repeat' (first | (show CA _ _ (Code.region 1 _ _) _ _; apply Stopped.out) | refine Sp.h ?_ | refine Lk.r rfl ?_ | refine Rf.mk rfl ?_ | (refine All.mk ?_; intro _) | fail)); any_goals apply Stopped.mk
  apply CA.freezeB 1
  focus rfl
  focus (repeat (first | exact Take.here | apply Take.there))
  repeat' (first | refine Sp.h ?_ | refine Lk.r rfl ?_ | refine Rf.mk rfl ?_ | refine OpK.r rfl ?_ | (apply TkA.r; (focus (repeat (first | exact Take.here | apply Take.there)))) | (apply At.r; (focus assumption)) | (apply CA.draw; (focus rfl); (focus kernel_rfl); (focus kernel_rfl); (focus repeat' (first | apply ON.one | exact ON.done | exact ON.none | apply ON.alt)); (focus rfl)) | exact trivial | apply RA'.both | fail)
  all_goals
    (apply Cl.use (hdel); (focus repeat' (first | exact Lend.nil | apply Lend.keep | fail)); (focus (repeat (first | exact Takes.nil | (apply Takes.cons; (focus (repeat (first | exact Take.here | apply Take.there))))))); (focus rfl))
    rintro _ _ ⟨w', rfl, rfl⟩
    have inv : Inv mgeC [bl x.put, bl x.drop, .ow w'] ⟨x.put, x.drop, w', fgK e.past x.marks⟩ := ⟨rfl⟩
    repeat' (first | refine Sp.h ?_ | refine Lk.r rfl ?_ | refine Rf.mk rfl ?_ | refine OpK.r rfl ?_ | (apply TkA.r; (focus (repeat (first | exact Take.here | apply Take.there)))) | (apply At.r; (focus assumption)) | (apply SetAk.r; (focus (repeat (first | assumption | exact SetA.z | apply SetA.s)))) | (apply Nm.r; (focus repeat (first | apply LN.cons | exact LN.nil))) | (apply Up.inv; (focus repeat (first | apply LN.cons | exact LN.nil)); (focus infer_instance)) | fail)
    exact ⟨_, _, .tup (.nil (by (repeat (first | exact Subl.nil | refine Subl.cons (by (repeat (first | exact Take.here | apply Take.there))) ?_)))), w', rfl⟩
theorem drop_a (v : Value) (i : Nat) (e : EvS) (m : MkS) (L : List MgE) (x : MgE) (hx : L[i]? = some x) (hl : x.marks.length ≤ 1024) :
    CallA Tryz.prog 251 [.agg (chC (.oe v 3 i 0) e m)] [arrR v 123 3 L mgeC, mgeR x] fun q own => q = it 0 ∧ ChO v i L false x.drop (fgK e.past x.marks) own := by
  have hi := (List.getElem?_eq_some_iff.1 hx).1
  have inv : Inv mgeC [bl false, bl x.drop, .ow x.w] ⟨false, x.drop, x.w, x.marks⟩ := ⟨rfl⟩
  have hf := forget_a v i e m (L.set i ⟨false, x.drop, x.w, x.marks⟩) ⟨false, x.drop, x.w, x.marks⟩ (by rw [List.getElem?_set, if_pos rfl, if_pos hi]) hl
  refine CallA.of pg ord251 Tryz.func251 rfl Tryz.ntmps251 Tryz.results251 rfl fun h0 G0 O0 => ?_
  repeat' (first | refine Sp.h ?_ | refine Lk.r rfl ?_ | refine Rf.mk rfl ?_ | (refine All.mk ?_; intro _) | (apply TkA.r; (focus (repeat (first | exact Take.here | apply Take.there)))) | (apply TkB.r; (focus (repeat (first | exact Take.here | apply Take.there)))) | (apply At.r; (focus assumption)) | refine Ch.l ⟨rfl, rfl⟩ ?_ | (apply SetAk.r; (focus (repeat (first | assumption | exact SetA.z | apply SetA.s)))) | (apply Up.inv; (focus repeat (first | apply LN.cons | exact LN.nil)); (focus infer_instance)) | fail)
  (apply Cl.use (hf); (focus repeat' (first | exact Lend.nil | apply Lend.keep | fail)); (focus (repeat (first | exact Takes.nil | (apply Takes.cons; (focus (repeat (first | exact Take.here | apply Take.there))))))); (focus rfl))
  rintro _ _ ⟨w', rfl⟩
  rw [List.set_set]
  repeat' (first | refine Sp.h ?_ | refine Lk.r rfl ?_ | refine Rf.mk rfl ?_ | (apply Nm.r; (focus repeat (first | apply LN.cons | exact LN.nil))) | fail)
  exact ⟨_, _, .one (.same (.nil (by (repeat (first | exact Subl.nil | refine Subl.cons (by (repeat (first | exact Take.here | apply Take.there))) ?_))))), rfl, w', rfl⟩
theorem put_a (v : Value) (i : Nat) (e : EvS) (m : MkS) (L : List MgE) (x : MgE) (hx : L[i]? = some x) (hl : x.marks.length ≤ 1024) :
    CallA Tryz.prog 252 [.agg (chC (.oe v 3 i 0) e m)] [arrR v 123 3 L mgeC, mgeR x] fun q own => q = it 0 ∧ ChO v i L true false (fgK e.past x.marks) own := by
  have hi := (List.getElem?_eq_some_iff.1 hx).1
  have inv : Inv mgeC [bl true, bl x.drop, .ow x.w] ⟨true, x.drop, x.w, x.marks⟩ := ⟨rfl⟩
  have inv2 : Inv mgeC [bl true, bl false, .ow x.w] ⟨true, false, x.w, x.marks⟩ := ⟨rfl⟩
  have inv3 : Inv mgeC [bl x.put, bl false, .ow x.w] ⟨x.put, false, x.w, x.marks⟩ := ⟨rfl⟩
  have hf := forget_a v i e m (L.set i ⟨true, false, x.w, x.marks⟩) ⟨true, false, x.w, x.marks⟩ (by rw [List.getElem?_set, if_pos rfl, if_pos hi]) hl
  have hx1 : ∀ y : MgE, (L.set i y)[i]? = some y := fun y => by rw [List.getElem?_set, if_pos rfl, if_pos hi]
  have h1 := hx1 ⟨true, x.drop, x.w, x.marks⟩
  have h3 := hx1 ⟨x.put, false, x.w, x.marks⟩
  refine CallA.of pg ord252 Tryz.func252 rfl Tryz.ntmps252 Tryz.results252 rfl fun h0 G0 O0 => ?_
  repeat' (first | refine Sp.h ?_ | refine Lk.r rfl ?_ | refine Rf.mk rfl ?_ | refine OpK.r rfl ?_ | (refine All.mk ?_; intro _) | (apply TkA.r; (focus (repeat (first | exact Take.here | apply Take.there)))) | (apply TkB.r; (focus (repeat (first | exact Take.here | apply Take.there)))) | (apply At.r; (focus assumption)) | refine Ch.l ⟨rfl, rfl⟩ ?_ | (apply SetAk.r; (focus (repeat (first | assumption | exact SetA.z | apply SetA.s)))) | (apply Up.inv; (focus repeat (first | apply LN.cons | exact LN.nil)); (focus infer_instance)) | (apply CA.draw; (focus rfl); (focus kernel_rfl); (focus kernel_rfl); (focus repeat' (first | apply ON.one | exact ON.done | exact ON.none | apply ON.alt)); (focus rfl)) | exact trivial | apply RA'.both | fail)
  all_goals rw [List.set_set]
  all_goals
    (apply Cl.use (hf); (focus repeat' (first | exact Lend.nil | apply Lend.keep | fail)); (focus (repeat (first | exact Takes.nil | (apply Takes.cons; (focus (repeat (first | exact Take.here | apply Take.there))))))); (focus rfl))
    rintro _ _ ⟨w', rfl⟩
    rw [List.set_set]
    repeat' (first | refine Sp.h ?_ | refine Lk.r rfl ?_ | refine Rf.mk rfl ?_ | (apply Nm.r; (focus repeat (first | apply LN.cons | exact LN.nil))) | fail)
    exact ⟨_, _, .one (.same (.nil (by (repeat (first | exact Subl.nil | refine Subl.cons (by (repeat (first | exact Take.here | apply Take.there))) ?_))))), rfl, w', rfl⟩
theorem multi_a (v : Value) (i : Nat) (e : EvS) (m : MkS) (L : List MgE) (x : MgE) (hx : L[i]? = some x) (hl : x.marks.length ≤ 1024) (hm : MonoK (fgK e.past x.marks) m) :
    CallA Tryz.prog 254 [.agg (chC (.oe v 3 i 0) e m)] [arrR v 123 3 L mgeC, mgeR x] fun q own => q = it (addF (fgK e.past x.marks) m).1 ∧ ChO v i L x.put x.drop (addF (fgK e.past x.marks) m).2 own := by
  have hi := (List.getElem?_eq_some_iff.1 hx).1
  have hf := forget_a v i e m L x hx hl
  have hle : (fgK e.past x.marks).length ≤ 1024 := Nat.le_trans (List.length_filter_le _ _) hl
  refine CallA.of pg ord254 Tryz.func254 rfl Tryz.ntmps254 Tryz.results254 rfl fun h0 G0 O0 => ?_
  repeat' (first | refine Sp.h ?_ | refine Lk.r rfl ?_ | refine Rf.mk rfl ?_ | (refine All.mk ?_; intro _) | (apply TkB.r; (focus (repeat (first | exact Take.here | apply Take.there)))) | refine Ch.l ⟨rfl, rfl⟩ ?_ | fail)
  (apply Cl.use (hf); (focus repeat' (first | exact Lend.nil | apply Lend.keep | fail)); (focus (repeat (first | exact Takes.nil | (apply Takes.cons; (focus (repeat (first | exact Take.here | apply Take.there))))))); (focus rfl))
  rintro _ _ ⟨w', rfl⟩
  have ha := add_a v i e m (L.set i ⟨x.put, x.drop, w', fgK e.past x.marks⟩) ⟨x.put, x.drop, w', fgK e.past x.marks⟩ (by rw [List.getElem?_set, if_pos rfl, if_pos hi]) hm hle
  repeat' (first | refine Sp.h ?_ | refine Lk.r rfl ?_ | refine Rf.mk rfl ?_ | (apply TkB.r; (focus (repeat (first | exact Take.here | apply Take.there)))) | refine Ch.l ⟨rfl, rfl⟩ ?_ | fail)
  (apply Cl.use (ha); (focus repeat' (first | exact Lend.nil | apply Lend.keep | fail)); (focus (repeat (first | exact Takes.nil | (apply Takes.cons; (focus (repeat (first | exact Take.here | apply Take.there))))))); (focus rfl))
  rintro _ _ ⟨w2, rfl, rfl⟩
  rw [List.set_set]
  repeat' (first | refine Sp.h ?_ | refine Lk.r rfl ?_ | (apply Nm.r; (focus repeat (first | apply LN.cons | exact LN.nil))) | fail)
  exact ⟨_, _, .one (.same (.nil (by (repeat (first | exact Subl.nil | refine Subl.cons (by (repeat (first | exact Take.here | apply Take.there))) ?_))))), rfl, w2, rfl⟩
end Go.Proofs.YtmllihbhphnolaaGreat
namespace Go.CF
open Go
theorem ON.refl : ∀ a : Ord, ON a a
  | .done => .done
  | .none => .none
  | .one _ r => .one (ON.refl r)
  | .alt _ r m => .alt (ON.refl r) (ON.refl m)
def altsT (f : Nat → Ord) : List Nat → Ord
  | [] => .none
  | i :: l => .alt i (f i) (altsT f l)
/-- All orders of some operations, then the rest. -/
def fillT (rest : Ord) : Nat → List Nat → Ord
  | 0, _ => rest
  | 1, [i] => .one i rest
  | n + 1, ps => altsT (fun i => fillT rest n (ps.erase i)) ps
section
variable {ops : Array Oper} {cl : Nat → Cls}
/-- What is listed, when some of the operations are left. -/
def arrL (l0 : Array Bool) (ps0 ps : List Nat) : Array Bool := ((List.range l0.size).map fun j => l0.getD j false || (ps0.contains j && !ps.contains j)).toArray
def subsL : List Nat → List (List Nat)
  | [] => [[]]
  | a :: l => (subsL l).map (a :: ·) ++ subsL l
theorem subsL_mem {ps ps0 : List Nat} (h : List.Sublist ps ps0) : ps ∈ subsL ps0 := by
  induction h with
  | slnil => simp [subsL]
  | cons a _ ih => simp [subsL, ih]
  | cons_cons a _ ih => simp [subsL, ih]
def chkM (ops : Array Oper) (cl : Nat → Cls) (rest : Ord) (fuel : Nat) (l0 : Array Bool) (ps0 : List Nat) : Bool :=
  ((subsL ps0).all fun ps => ps.isEmpty || Region.ready .any ops (arrL l0 ps0 ps) == ps) && ps0.all (fun i => acts (cl i) && !l0.getD i true) && chk ops cl rest fuel true (arrL l0 ps0 [])
theorem arrL_all {l0 : Array Bool} {ps0 : List Nat} : arrL l0 ps0 ps0 = l0 := by
  apply Array.ext_getElem?
  intro j
  simp only [arrL, List.getElem?_toArray, List.getElem?_map, Bool.and_not_self, Bool.or_false]
  by_cases hj : j < l0.size
  · simp [Array.getD, hj]
  · simp [hj]
theorem arrL_set {l0 : Array Bool} {ps0 ps : List Nat} {i : Nat} (hn : ps.Nodup) (h0 : i ∈ ps0) (_hi : i ∈ ps) : (arrL l0 ps0 ps).setIfInBounds i true = arrL l0 ps0 (ps.erase i) := by
  apply Array.ext_getElem?
  intro j
  rw [Array.getElem?_setIfInBounds]
  simp only [arrL, List.getElem?_toArray, List.getElem?_map, List.size_toArray, List.length_map, List.length_range]
  by_cases hij : i = j
  · subst hij
    by_cases hj : i < l0.size
    · have : (ps.erase i).contains i = false := by simpa using hn.not_mem_erase
      simp [hj, h0, hn.not_mem_erase]
    · simp [hj]
  · rw [if_neg hij]
    have hc : (ps.erase i).contains j = ps.contains j := by
      simp only [List.contains_eq_mem, List.mem_erase_of_ne (Ne.symm hij)]
    by_cases hj : j < l0.size
    · simp only [List.getElem?_range hj, Option.map_some, hc]
    · simp [hj]
def oneOK (ops : Array Oper) (cl : Nat → Cls) (i : Nat) (listed : Array Bool) : Bool := match cl i with
  | .pure => (Region.ready .any ops listed).contains i && Region.free .any ops listed i
  | .read => (Region.ready .any ops listed).contains i && Region.free .any ops listed i && (List.range ops.size).all fun j => listed.getD j true || !isLoud (cl j) || waitsB ops i ops.size j
  | _ => Region.ready .any ops listed == [i]
theorem chk_one_eq {i : Nat} {r : Ord} {fuel : Nat} {listed : Array Bool} : chk ops cl (.one i r) (fuel + 1) true listed = (oneOK ops cl i listed && chk ops cl r fuel true (listed.setIfInBounds i true)) := by
  simp only [chk, oneOK]
  cases cl i <;> simp
theorem altsT_heads {f : Nat → Ord} : ∀ l, (altsT f l).heads = l
  | [] => rfl
  | i :: l => by simp [altsT, Ord.heads, altsT_heads l]
theorem chk_alts {f : Nat → Ord} {fuel : Nat} {listed : Array Bool} : ∀ {l : List Nat}, (∀ i ∈ l, acts (cl i) = true ∧ chk ops cl (f i) fuel true (listed.setIfInBounds i true) = true) → chk ops cl (altsT f l) (fuel + 1) false listed = true
  | [], _ => by simp [altsT, chk]
  | i :: l, h => by
    simp only [altsT, chk, Bool.not_false, Bool.true_or, Bool.true_and, Bool.and_eq_true]
    exact ⟨h i (by simp), chk_alts fun j hj => h j (by simp [hj])⟩
theorem chk_fill {rest : Ord} {fuel : Nat} {l0 : Array Bool} {ps0 : List Nat} (hn : ps0.Nodup) (h : chkM ops cl rest fuel l0 ps0 = true) : chk ops cl (fillT rest ps0.length ps0) (fuel + ps0.length) true l0 = true := by
  simp only [chkM, Bool.and_eq_true, List.all_eq_true, Bool.or_eq_true] at h
  obtain ⟨⟨h1, h2⟩, h3⟩ := h
  have key : ∀ (n : Nat) (ps : List Nat), ps.length = n → List.Sublist ps ps0 → chk ops cl (fillT rest n ps) (fuel + n) true (arrL l0 ps0 ps) = true := by
    intro n
    induction n with
    | zero =>
      intro ps hl _
      have : ps = [] := List.length_eq_zero_iff.1 hl
      subst this
      exact h3
    | succ n ih =>
      intro ps hl hs
      have hnp : ps.Nodup := List.Sublist.nodup hs hn
      have hready : Region.ready .any ops (arrL l0 ps0 ps) = ps := by
        rcases h1 ps (subsL_mem hs) with h9 | h9
        · rw [List.isEmpty_iff] at h9; subst h9; simp at hl
        · exact eq_of_beq h9
      have sub : ∀ i ∈ ps, acts (cl i) = true ∧ chk ops cl (fillT rest n (ps.erase i)) (fuel + n) true ((arrL l0 ps0 ps).setIfInBounds i true) = true := by
        intro i hi
        refine ⟨(h2 i (hs.mem hi)).1, ?_⟩
        rw [arrL_set hnp (hs.mem hi) hi]
        exact ih _ (by rw [List.length_erase_of_mem hi]; omega) ((List.erase_sublist).trans hs)
      have gen : 2 ≤ ps.length → chk ops cl (altsT (fun i => fillT rest n (ps.erase i)) ps) (fuel + n + 1) true (arrL l0 ps0 ps) = true := by
        intro h2l
        match ps, hready, sub with
        | i :: l, hready, sub =>
          simp only [altsT, chk, altsT_heads, hready, beq_self_eq_true, Bool.or_true, Bool.true_and, Bool.and_eq_true]
          exact ⟨sub i (by simp), chk_alts fun j hj => sub j (by simp [hj])⟩
      match n, ps, hl, gen, sub, hready with
      | 0, [i], _, _, sub, hready =>
        obtain ⟨g1, g2⟩ := sub i (by simp)
        have g3 : oneOK ops cl i (arrL l0 ps0 [i]) = true := by
          revert g1
          unfold oneOK
          cases cl i <;> simp [acts, hready]
        show chk ops cl (.one i rest) (fuel + 1) true (arrL l0 ps0 [i]) = true
        rw [chk_one_eq, g3]
        simpa [fillT] using g2
      | n + 1, ps, hl, gen, _, _ => exact gen (by omega)
  have := key _ ps0 rfl (List.Sublist.refl _)
  rwa [arrL_all] at this
theorem chk_one {i : Nat} {r : Ord} {fuel : Nat} {listed : Array Bool} (h1 : oneOK ops cl i listed = true) (h2 : chk ops cl r fuel true (listed.setIfInBounds i true) = true) : chk ops cl (.one i r) (fuel + 1) true listed = true := by
  rw [chk_one_eq, h1, h2]; rfl
end
section
variable {Γ : Cx} {k : List KI} {e : EA} {o : List Res} {ops : Array Oper} {cl : Nat → Cls}
theorem RA'.alts {f : Nat → Ord} : ∀ {ps : List Nat}, (∀ i ∈ ps, RA' Γ k ops cl (.one i (f i)) e o) → RA' Γ k ops cl (altsT f ps) e o
  | [], _ => show RA' Γ k ops cl .none e o from Sp.h (s := True) trivial
  | i :: l, h => show RA' Γ k ops cl (.alt i (f i) (altsT f l)) e o from Sp.h (s := RA' Γ k ops cl (.one i (f i)) e o ∧ RA' Γ k ops cl (altsT f l) e o) ⟨h i (by simp), RA'.alts fun j hj => h j (by simp [hj])⟩
theorem lookL_mem {β : Type} {kvs : List (List Int × β)} (hn : kvs.Pairwise fun a b => a.1 ≠ b.1) {key : List Int} {v : β} (h : (key, v) ∈ kvs) : lookL kvs key = some v := by
  induction kvs with
  | nil => cases h
  | cons a l ih =>
    obtain ⟨h1, h2⟩ := List.pairwise_cons.1 hn
    simp only [lookL, List.find?_cons] at ih ⊢
    rcases List.mem_cons.1 h with rfl | h
    · simp
    · have h3 := h1 _ h
      have h4 : decide (a.1 = key) = false := by simpa using h3
      rw [h4]
      exact ih h2 h
theorem lookL_nil {β : Type} {kvs : List (List Int × β)} {key : List Int} (h : ∀ p ∈ kvs, p.1 ≠ key) : lookL kvs key = none := by
  unfold lookL
  rw [List.find?_eq_none.2 fun p hp => by simpa using h p hp]
  rfl
theorem lookL_perm {β : Type} {a b : List (List Int × β)} (hp : a.Perm b) (hn : b.Pairwise fun x y => x.1 ≠ y.1) (key : List Int) : lookL a key = lookL b key := by
  have hna : a.Pairwise fun x y => x.1 ≠ y.1 := hp.symm.pairwise hn fun h => fun h' => h h'.symm
  by_cases h : ∃ v, (key, v) ∈ b
  · obtain ⟨v, hv⟩ := h
    rw [lookL_mem hn hv, lookL_mem hna (hp.mem_iff.2 hv)]
  · rw [lookL_nil (kvs := b) (key := key) fun p hp' hk => h ⟨p.2, by subst hk; exact hp'⟩, lookL_nil (kvs := a) (key := key) fun p hp' hk => h ⟨p.2, by subst hk; exact hp.mem_iff.1 hp'⟩]
theorem RA'.fill {β : Type} {b : Nat} {kt : TypeId} {f : β → AV} {rest : Ord} (items : Nat → List Int × β) (ps0 : List Nat) (hnd : (ps0.map items).Pairwise fun x y => x.1 ≠ y.1)
    (hs : ∀ i ∈ ps0, ∀ kvs r, RA' Γ k ops cl r e (mapR Γ.P b kt (updL kvs (items i).1 (items i).2) f :: o) → RA' Γ k ops cl (.one i r) e (mapR Γ.P b kt kvs f :: o))
    (h : ∀ kvs, kvs.Perm (ps0.map items) → RA' Γ k ops cl rest e (mapR Γ.P b kt kvs f :: o)) :
    RA' Γ k ops cl (fillT rest ps0.length ps0) e (mapR Γ.P b kt [] f :: o) := by
  have key : ∀ (n : Nat) (ps : List Nat) (kvs : List (List Int × β)), ps.length = n → (kvs ++ ps.map items).Perm (ps0.map items) → (∀ i ∈ ps, i ∈ ps0) → RA' Γ k ops cl (fillT rest n ps) e (mapR Γ.P b kt kvs f :: o) := by
    intro n
    induction n with
    | zero =>
      intro ps kvs hl hp _
      have : ps = [] := List.length_eq_zero_iff.1 hl
      subst this
      exact h kvs (by simpa using hp)
    | succ n ih =>
      intro ps kvs hl hp hm
      have step : ∀ i ∈ ps, ∀ r, RA' Γ k ops cl r e (mapR Γ.P b kt (kvs ++ [items i]) f :: o) → RA' Γ k ops cl (.one i r) e (mapR Γ.P b kt kvs f :: o) := by
        intro i hi r hr
        refine hs i (hm i hi) kvs r ?_
        have hnk : lookL kvs (items i).1 = none := by
          refine lookL_nil fun p hpm hk => ?_
          have hna : (kvs ++ ps.map items).Pairwise fun x y => x.1 ≠ y.1 := hp.symm.pairwise hnd fun h => fun h' => h h'.symm
          exact (List.pairwise_append.1 hna).2.2 p hpm (items i) (List.mem_map_of_mem hi) hk
        rw [updL_none _ _ _ hnk]
        exact hr
      have sub : ∀ i ∈ ps, RA' Γ k ops cl (fillT rest n (ps.erase i)) e (mapR Γ.P b kt (kvs ++ [items i]) f :: o) := by
        intro i hi
        refine ih _ _ (by rw [List.length_erase_of_mem hi]; omega) ?_ fun j hj => hm j (List.mem_of_mem_erase hj)
        refine List.Perm.trans ?_ hp
        rw [List.append_assoc]
        refine List.Perm.append_left kvs ?_
        have := (List.perm_cons_erase hi).map items
        exact this.symm
      have gen : RA' Γ k ops cl (altsT (fun i => fillT rest n (ps.erase i)) ps) e (mapR Γ.P b kt kvs f :: o) := RA'.alts fun i hi => step i hi _ (sub i hi)
      match n, ps, hl, gen, sub, step with
      | 0, [i], _, _, sub, step => exact step i (by simp) _ (sub i (by simp))
      | n + 1, ps, _, gen, _, _ => exact gen
  exact key _ ps0 [] rfl (by simp) fun _ h => h
end
end Go.CF
namespace Go.Proofs.YtmllihbhphnolaaGreat
open Go Go.CF
set_option maxRecDepth 20000
abbrev fnV (g : FuncId) : AV := .fn g []
def rulesL : List (List Int × FuncId) := [([2, 0], 250), ([2, 1], 251), ([3, 0], 252), ([3, 1], 250), ([4, 2], 253), ([5, 2], 254)]
def rulesI (i : Nat) : List Int × FuncId := (rulesL[i / 2 - 1]?).getD ([], 0)
def rulesT : Ord := .one 1 (.one 3 (.one 5 (.one 7 (.one 9 (.one 11 (.one 0 (fillT (.one 13 (.one 14 .done)) 6 [2, 4, 6, 8, 10, 12])))))))
def rulesO : Nat → Ord × (Nat → Cls) := fun id => bif Nat.beq id 1 then (rulesT, clOf [.ext, .pure, .loud, .pure, .loud, .pure, .loud, .pure, .loud, .pure, .loud, .pure, .loud, .pure, .pure]) else (.done, clOf [])
set_option maxHeartbeats 1000000 in
theorem rules_a : CallA Tryz.prog 188 [] [] fun r own => ∃ b kvs, r = .val (.map (some b)) ∧ own = [mapR Tryz.prog b 255 kvs fnV] ∧ ∀ key, lookL kvs key = lookL rulesL key := by
  refine CallA.of pg rulesO Tryz.func188 rfl Tryz.ntmps188 Tryz.results188 rfl fun h0 G0 O0 => ?_
  (repeat' (first | (show CA _ _ (Code.region 1 _ _) _ _; apply Stopped.out) | refine Sp.h ?_ | refine Lk.r rfl ?_ | refine Rf.mk rfl ?_ | fail)); any_goals apply Stopped.mk
  apply CA.draw (t := rulesT)
  focus rfl
  focus kernel_rfl
  focus
    show chk _ _ rulesT 15 _ _ = true
    refine chk_one (fuel := 14) (by kernel_rfl) (chk_one (fuel := 13) (by kernel_rfl) (chk_one (fuel := 12) (by kernel_rfl) (chk_one (fuel := 11) (by kernel_rfl) (chk_one (fuel := 10) (by kernel_rfl) (chk_one (fuel := 9) (by kernel_rfl) (chk_one (fuel := 8) (by kernel_rfl) ?_))))))
    exact chk_fill (fuel := 2) (ps0 := [2, 4, 6, 8, 10, 12]) (by decide) (by kernel_rfl)
  focus exact ON.refl _
  focus rfl
  unfold rulesT
  repeat' (first | refine Sp.h ?_ | refine Lk.r rfl ?_ | refine Rf.mk rfl ?_ | refine OpK.r rfl ?_ | (apply Fk.r; (focus (repeat (first | exact FillA.nil | (apply FillA.agg; (focus rfl); (focus rfl); (focus (repeat (first | exact SetAs.z | (apply SetAs.c; (focus (repeat (first | assumption | exact SetA.z | apply SetA.s)))))))) | (apply FillA.one; (focus rfl); (focus infer_instance); (focus (repeat (first | assumption | exact SetA.z | apply SetA.s)))))))) | fail)
  refine MkM.r fnV ?_
  repeat' (first | (refine All.mk ?_; intro _) | fail)
  apply RA'.fill rulesI [2, 4, 6, 8, 10, 12]
  · decide
  · intro i hi kvs r h
    simp only [List.mem_cons, List.not_mem_nil, or_false] at hi
    rcases hi with rfl | rfl | rfl | rfl | rfl | rfl
    all_goals repeat' (first | refine Sp.h ?_ | refine Lk.r rfl ?_ | refine Rf.mk rfl ?_ | refine OpK.r rfl ?_ | (apply Il.r; (focus repeat (first | apply ILit.cons | exact ILit.nil))) | (apply Kf.mk; (focus kernel_rfl)) | (apply TkM.r; (focus (repeat (first | exact Take.here | apply Take.there)))) | refine UpV.r rfl ?_ | fail)
    all_goals exact h
  · intro kvs hp
    have hlk : ∀ key, lookL kvs key = lookL rulesL key := fun key => lookL_perm hp (by decide) key
    repeat' (first | refine Sp.h ?_ | refine Lk.r rfl ?_ | refine OpK.r rfl ?_ | (apply Nm.r; (focus repeat (first | apply LN.cons | exact LN.nil))) | fail)
    exact ⟨_, _, .one (.same (.nil (by (repeat (first | exact Subl.nil | refine Subl.cons (by (repeat (first | exact Take.here | apply Take.there))) ?_))))), _, kvs, rfl, rfl, hlk⟩
end Go.Proofs.YtmllihbhphnolaaGreat
namespace Go.Proofs.YtmllihbhphnolaaGreat
open Go Go.CF
set_option maxRecDepth 20000
def cmp2 (a b : MkS) : Int := orI [cmpI a.time b.time, cmpI a.rep b.rep]
noncomputable def lastF (l : List MkS) (m : MkS) : Int × List MkS := match l with
  | [] => addF [] m
  | x :: r => (0, if cmp2 x m < 0 then m :: r else x :: r)
set_option maxHeartbeats 2000000 in
theorem last_a (v : Value) (i : Nat) (e : EvS) (m : MkS) (L : List MgE) (x : MgE) (hx : L[i]? = some x) (hl : x.marks.length ≤ 1024) :
    CallA Tryz.prog 253 [.agg (chC (.oe v 3 i 0) e m)] [arrR v 123 3 L mgeC, mgeR x] fun q own => q = it (lastF x.marks m).1 ∧ ChO v i L x.put x.drop (lastF x.marks m).2 own := by
  have hi := (List.getElem?_eq_some_iff.1 hx).1
  have hsame : L.set i ⟨x.put, x.drop, x.w, x.marks⟩ = L := by
    apply List.ext_getElem?
    intro j
    rw [List.getElem?_set]
    split
    · rename_i hj; subst hj; first | rw [if_pos hi, hx] | rw [hx]
    · rfl
  obtain ⟨p, d, w, l⟩ := x
  simp only at hl hsame
  match l, hl, hx, hsame with
  | [], hl, hx, hsame =>
    have ha := add_a v i e m L ⟨p, d, w, []⟩ hx (fun i j a b _ h => by simp at h) hl
    refine CallA.of pg ord253 Tryz.func253 rfl Tryz.ntmps253 Tryz.results253 rfl fun h0 G0 O0 => ?_
    repeat' (first | refine Sp.h ?_ | refine Lk.r rfl ?_ | refine Rf.mk rfl ?_ | (apply Bd.t; (focus (first | assumption | omega | rfl))) | (refine All.mk ?_; intro _) | (apply TkA.r; (focus (repeat (first | exact Take.here | apply Take.there)))) | (apply TkB.r; (focus (repeat (first | exact Take.here | apply Take.there)))) | (apply At.r; (focus assumption)) | refine Ch.l ⟨rfl, rfl⟩ ?_ | fail)
    (apply Cl.use (ha); (focus repeat' (first | exact Lend.nil | apply Lend.keep | fail)); (focus (repeat (first | exact Takes.nil | (apply Takes.cons; (focus (repeat (first | exact Take.here | apply Take.there))))))); (focus rfl))
    rintro _ _ ⟨w2, rfl, rfl⟩
    repeat' (first | refine Sp.h ?_ | refine Lk.r rfl ?_ | (apply Nm.r; (focus repeat (first | apply LN.cons | exact LN.nil))) | fail)
    exact ⟨_, _, .one (.same (.nil (by (repeat (first | exact Subl.nil | refine Subl.cons (by (repeat (first | exact Take.here | apply Take.there))) ?_))))), rfl, w2, rfl⟩
  | y :: r, hl, hx, hsame =>
    have h0 : (y :: r)[0]? = some y := rfl
    have hne : ¬ ((({ put := p, drop := d, w := w, marks := y :: r } : MgE).marks.length : Int) = 0) := by simp only [List.length_cons]; omega
    have ho := orI_p [cmpI y.time m.time, cmpI y.rep m.rep]
    by_cases hc : cmp2 y m < 0
    · have hF : lastF (y :: r) m = (0, m :: r) := by simp [lastF, hc]
      have hc2 : orI [cmpI y.time m.time, cmpI y.rep m.rep] < 0 := hc
      rw [hF]
      refine CallA.of pg ord253 Tryz.func253 rfl Tryz.ntmps253 Tryz.results253 rfl fun h0 G0 O0 => ?_
      repeat' (first | refine Sp.h ?_ | refine Lk.r rfl ?_ | refine Rf.mk rfl ?_ | (apply Bd.f; (focus (first | assumption | omega | exact Bool.false_ne_true))) | refine OpK.r rfl ?_ | (refine All.mk ?_; intro _) | (apply TkA.r; (focus (repeat (first | exact Take.here | apply Take.there)))) | (apply TkB.r; (focus (repeat (first | exact Take.here | apply Take.there)))) | (apply Ix.q; (focus exact rfl); (focus assumption)) | (apply At.r; (focus assumption)) | refine Ch.l ⟨rfl, rfl⟩ ?_ | (apply SetAsk.r; (focus (repeat (first | exact SetAs.z | (apply SetAs.c; (focus (repeat (first | assumption | exact SetA.z | apply SetA.s)))))))) | (apply Fk.r; (focus (repeat (first | exact FillA.nil | (apply FillA.agg; (focus rfl); (focus rfl); (focus (repeat (first | exact SetAs.z | (apply SetAs.c; (focus (repeat (first | assumption | exact SetA.z | apply SetA.s)))))))) | (apply FillA.one; (focus rfl); (focus infer_instance); (focus (repeat (first | assumption | exact SetA.z | apply SetA.s)))))))) | (apply Nm.r; (focus repeat (first | apply LN.cons | exact LN.nil))) | refine Rf.mk ⟨rfl, rfl, rfl⟩ ?_ | (apply CA.draw; (focus rfl); (focus kernel_rfl); (focus kernel_rfl); (focus repeat' (first | apply ON.one | exact ON.done | exact ON.none | apply ON.alt)); (focus rfl)) | fail | (apply Cl.p (compareI_p _ _); (focus repeat' (first | exact Lend.nil | apply Lend.keep | fail))))
      (apply Cl.lend (ho); (focus repeat' (first | exact Lend.nil | (apply Lend.lendm; (focus (repeat (first | exact Take.here | apply Take.there))); (focus rfl); (focus first | omega | decide | (simp; omega) | exact Nat.le_of_ble_eq_true rfl)) | fail)))
      (repeat' (first | (show CA _ _ (Code.region 6 _ _) _ _; apply Stopped.out) | refine Sp.h ?_ | refine Lk.r rfl ?_ | refine Rf.mk rfl ?_ | (apply Bd.t; (focus (first | assumption | omega | rfl))) | refine OpK.r rfl ?_ | (apply TkA.r; (focus (repeat (first | exact Take.here | apply Take.there)))) | (apply TkB.r; (focus (repeat (first | exact Take.here | apply Take.there)))) | (apply Ix.q; (focus exact rfl); (focus assumption)) | (apply At.r; (focus assumption)) | refine Ch.r ?_ | (apply SetAsk.r; (focus (repeat (first | exact SetAs.z | (apply SetAs.c; (focus (repeat (first | assumption | exact SetA.z | apply SetA.s)))))))) | refine Up.r rfl ?_ | (apply CA.draw; (focus rfl); (focus kernel_rfl); (focus kernel_rfl); (focus repeat' (first | apply ON.one | exact ON.done | exact ON.none | apply ON.alt)); (focus rfl)) | fail)); any_goals apply Stopped.mk
      have hmap : (L.set i ⟨p, d, w, m :: r⟩).map mgeC = L.map mgeC := by
        rw [List.map_set]
        show (L.map mgeC).set i (mgeC ⟨p, d, w, y :: r⟩) = L.map mgeC
        rw [← List.map_set, hsame]
      apply CA.retype (v := v) (m := L.set i ⟨p, d, w, m :: r⟩) (g := mgeC)
      focus (repeat (first | exact Take.here | apply Take.there))
      focus exact hmap
      repeat' (first | refine Sp.h ?_ | refine Lk.r rfl ?_ | refine Rf.mk rfl ?_ | (apply Nm.r; (focus repeat (first | apply LN.cons | exact LN.nil))) | fail)
      exact ⟨_, _, .one (.same (.nil (by (repeat (first | exact Subl.nil | refine Subl.cons (by (repeat (first | exact Take.here | apply Take.there))) ?_))))), rfl, w, rfl⟩
    · have hF : lastF (y :: r) m = (0, y :: r) := by simp [lastF, hc]
      have hc2 : ¬ orI [cmpI y.time m.time, cmpI y.rep m.rep] < 0 := hc
      rw [hF]
      refine CallA.of pg ord253 Tryz.func253 rfl Tryz.ntmps253 Tryz.results253 rfl fun h0 G0 O0 => ?_
      repeat' (first | refine Sp.h ?_ | refine Lk.r rfl ?_ | refine Rf.mk rfl ?_ | (apply Bd.f; (focus (first | assumption | omega | exact Bool.false_ne_true))) | refine OpK.r rfl ?_ | (refine All.mk ?_; intro _) | (apply TkA.r; (focus (repeat (first | exact Take.here | apply Take.there)))) | (apply TkB.r; (focus (repeat (first | exact Take.here | apply Take.there)))) | (apply Ix.q; (focus exact rfl); (focus assumption)) | (apply At.r; (focus assumption)) | refine Ch.l ⟨rfl, rfl⟩ ?_ | (apply SetAsk.r; (focus (repeat (first | exact SetAs.z | (apply SetAs.c; (focus (repeat (first | assumption | exact SetA.z | apply SetA.s)))))))) | (apply Fk.r; (focus (repeat (first | exact FillA.nil | (apply FillA.agg; (focus rfl); (focus rfl); (focus (repeat (first | exact SetAs.z | (apply SetAs.c; (focus (repeat (first | assumption | exact SetA.z | apply SetA.s)))))))) | (apply FillA.one; (focus rfl); (focus infer_instance); (focus (repeat (first | assumption | exact SetA.z | apply SetA.s)))))))) | (apply Nm.r; (focus repeat (first | apply LN.cons | exact LN.nil))) | refine Rf.mk ⟨rfl, rfl, rfl⟩ ?_ | (apply CA.draw; (focus rfl); (focus kernel_rfl); (focus kernel_rfl); (focus repeat' (first | apply ON.one | exact ON.done | exact ON.none | apply ON.alt)); (focus rfl)) | fail | (apply Cl.p (compareI_p _ _); (focus repeat' (first | exact Lend.nil | apply Lend.keep | fail))))
      (apply Cl.lend (ho); (focus repeat' (first | exact Lend.nil | (apply Lend.lendm; (focus (repeat (first | exact Take.here | apply Take.there))); (focus rfl); (focus first | omega | decide | (simp; omega) | exact Nat.le_of_ble_eq_true rfl)) | fail)))
      repeat' (first | refine Sp.h ?_ | refine Lk.r rfl ?_ | refine Rf.mk rfl ?_ | (apply Bd.f; (focus (first | assumption | omega | exact Bool.false_ne_true))) | refine OpK.r rfl ?_ | (apply Nm.r; (focus repeat (first | apply LN.cons | exact LN.nil))) | fail)
      all_goals exact ⟨_, _, .one (.same (.nil (by (repeat (first | exact Subl.nil | refine Subl.cons (by (repeat (first | exact Take.here | apply Take.there))) ?_))))), rfl, w, congrArg (fun z => [arrR v 123 3 z mgeC, arrR w 125 4 (y :: r) mkC]) (hsame).symm⟩
end Go.Proofs.YtmllihbhphnolaaGreat
namespace Go.Proofs.YtmllihbhphnolaaGreat
open Go Go.CF
set_option maxRecDepth 20000
def EvV (m : ModS) (n : Int) (e : EvS) : Prop := FormedE e ∧ (e.past.length : Int) = n ∧ (e.kind = 0 → e.action < (m.acts.length : Nat))
noncomputable instance (m : ModS) (n : Int) (e : EvS) : Decidable (EvV m n e) := Classical.propDecidable _
theorem evalid_p (m : ModS) (n : Int) (e : EvS) : CallP Tryz.prog 80 [mdl m, it n, evA' e] (bl (decide (EvV m n e))) := by
  have hf := formed_p e
  refine CallA.of pg ord80 Tryz.func80 rfl Tryz.ntmps80 Tryz.results80 rfl fun h0 G0 O0 => ?_
  repeat' (first | refine Sp.h ?_ | refine Lk.r rfl ?_ | refine Rf.mk rfl ?_ | (apply Bd.t; (focus (first | assumption | omega | rfl))) | (apply Bd.f; (focus (first | assumption | omega | exact Bool.false_ne_true))) | (refine Bd.mk ?_ ?_ <;> intro _) | (refine Im.mk ?_; intro _) | (refine All.mk ?_; intro _) | (apply TkB.r; (focus (repeat (first | exact Take.here | apply Take.there)))) | refine Ch.l ⟨rfl, rfl⟩ ?_ | (apply Nm.r; (focus repeat (first | apply LN.cons | exact LN.nil))) | fail | (apply Cl.p (hf); (focus repeat' (first | exact Lend.nil | apply Lend.keep | fail))))
  all_goals refine Fin.p rfl (vb ?_)
  all_goals first
    | exact (decide_eq_false (fun h => by
        obtain ⟨h1, h2, h3⟩ := h
        first
          | exact absurd h1 (by assumption)
          | omega)).symm
    | exact (decide_eq_true ⟨by assumption, by omega, by omega⟩).symm
    | exact decide_eq_decide.2 ⟨fun h => ⟨by assumption, by omega, by omega⟩, fun h => by
        obtain ⟨h1, h2, h3⟩ := h
        omega⟩
    | skip
abbrev UpS := Int × Int × Int
/-- The last update of a cell. -/
def updF (us : List UpS) (c : Int) : Option UpS := us.reverse.find? fun u => decide (u.2.1 = c)
def updT (us : List UpS) : List (List Int × UpS) := us.foldl (fun kvs u => updL kvs [u.2.1] u) []
theorem updT_look (us : List UpS) (c : Int) : lookL (updT us) [c] = updF us c := by
  have key : ∀ us : List UpS, lookL (updT us.reverse) [c] = updF us.reverse c := by
    intro us
    induction us with
    | nil => rfl
    | cons u us ih =>
      rw [List.reverse_cons, updT, List.foldl_append, updF, List.reverse_append]
      simp only [List.foldl_cons, List.foldl_nil, List.reverse_cons, List.reverse_nil, List.nil_append, List.cons_append, List.find?_cons]
      rw [lookL_upd]
      by_cases h : u.2.1 = c
      · simp [h]
      · have h2 : ¬ [c] = [u.2.1] := by simpa using fun h9 : c = u.2.1 => h h9.symm
        rw [if_neg h2]
        simp only [h, decide_false]
        exact ih
  have := key us.reverse
  rwa [List.reverse_reverse] at this
theorem rules_cases (a b : Int) : lookL rulesL [a, b] = none ∨ (a = 2 ∧ b = 0 ∧ lookL rulesL [a, b] = some 250) ∨ (a = 2 ∧ b = 1 ∧ lookL rulesL [a, b] = some 251) ∨ (a = 3 ∧ b = 0 ∧ lookL rulesL [a, b] = some 252)
    ∨ (a = 3 ∧ b = 1 ∧ lookL rulesL [a, b] = some 250) ∨ (a = 4 ∧ b = 2 ∧ lookL rulesL [a, b] = some 253) ∨ (a = 5 ∧ b = 2 ∧ lookL rulesL [a, b] = some 254) := by
  cases h : lookL rulesL [a, b] with
  | none => exact .inl rfl
  | some g =>
    refine .inr ?_
    have hm := List.mem_of_find?_eq_some (p := fun p : List Int × FuncId => decide (p.1 = [a, b])) (l := rulesL) (a := ([a, b], g)) (by
      unfold lookL at h
      cases h9 : rulesL.find? (fun p => decide (p.1 = [a, b])) with
      | none => rw [h9] at h; cases h
      | some q =>
        rw [h9] at h
        have h1 : q.1 = [a, b] := by simpa using List.find?_some h9
        have h2 : q.2 = g := by simpa using h
        rw [← h1, ← h2])
    simp only [rulesL, List.mem_cons, Prod.mk.injEq, List.cons.injEq, List.not_mem_nil, or_false, and_true] at hm
    rcases hm with ⟨⟨h1, h2⟩, h3⟩ | ⟨⟨h1, h2⟩, h3⟩ | ⟨⟨h1, h2⟩, h3⟩ | ⟨⟨h1, h2⟩, h3⟩ | ⟨⟨h1, h2⟩, h3⟩ | ⟨⟨h1, h2⟩, h3⟩ <;> subst h1 <;> subst h2 <;> subst h3 <;> simp
theorem LtK.trans {a b c : MkS} (h1 : LtK a b) (h2 : LtK b c) : LtK a c := by unfold LtK at *; omega
theorem LtK.cotrans {a b : MkS} (c : MkS) (h : LtK a b) : LtK a c ∨ LtK c b := by unfold LtK at *; omega
/-- Marks in order. -/
def SrtK (l : List MkS) : Prop := l.Pairwise fun a b => ¬ LtK b a
theorem SrtK.mono {l : List MkS} (h : SrtK l) (m : MkS) : MonoK l m := by
  intro i j a b hij ha hb hlt
  rcases Nat.lt_or_ge i j with h1 | h1
  · have hi := (List.getElem?_eq_some_iff.1 ha)
    have hj := (List.getElem?_eq_some_iff.1 hb)
    have := List.pairwise_iff_getElem.1 h i j hi.1 hj.1 h1
    rw [hi.2, hj.2] at this
    rcases hlt.cotrans a with h2 | h2
    · exact absurd h2 this
    · exact h2
  · have : i = j := by omega
    subst this
    rw [ha] at hb; cases hb; exact hlt
theorem srt_of {l : List MkS} (h : ∀ (i : Nat) (x y : MkS), l[i]? = some x → l[i + 1]? = some y → ¬ LtK y x) : SrtK l := by
  induction l with
  | nil => exact List.Pairwise.nil
  | cons a l ih =>
    have hl : SrtK l := ih fun i x y hx hy => h (i + 1) x y hx hy
    refine List.pairwise_cons.2 ⟨fun b hb => ?_, hl⟩
    match l, hl, h with
    | [], _, _ => cases hb
    | c :: l, hl, h =>
      have h0 := h 0 a c rfl rfl
      rcases List.mem_cons.1 hb with rfl | hb
      · exact h0
      · have h1 := (List.pairwise_cons.1 hl).1 b hb
        intro h2
        rcases h2.cotrans c with h3 | h3
        · exact h1 h3
        · exact h0 h3
theorem ValG.srt {t : TblS} {g : MgS} (h : ValG t g) : SrtK g.marks := by
  refine srt_of fun i x y hx hy => ?_
  have hi := (List.getElem?_eq_some_iff.1 hy).1
  exact (h.2 (i + 1) y hi hy).2.2 x (by omega) (by simpa using hx)
theorem SrtK.filter {l : List MkS} (h : SrtK l) (p : MkS → Bool) : SrtK (l.filter p) := List.Pairwise.filter p h
/-- What an event does to a cell. -/
noncomputable def cellF (e : EvS) (t : TblS) (u : Option UpS) (g : MgS) : Int × MgS := match u with
  | none => (0, g)
  | some u =>
    let m : MkS := ⟨e.rep, e.num, e.time, if isReg t.kind then u.2.2 else 0⟩
    if t.kind = 2 ∧ u.1 = 0 ∨ t.kind = 3 ∧ u.1 = 1 then ((addF g.marks m).1, ⟨g.put, g.drop, (addF g.marks m).2⟩)
    else if t.kind = 2 ∧ u.1 = 1 then (0, ⟨false, g.drop, fgK e.past g.marks⟩)
    else if t.kind = 3 ∧ u.1 = 0 then (0, ⟨true, false, fgK e.past g.marks⟩)
    else if t.kind = 4 ∧ u.1 = 2 then ((lastF g.marks m).1, ⟨g.put, g.drop, (lastF g.marks m).2⟩)
    else if t.kind = 5 ∧ u.1 = 2 then ((addF (fgK e.past g.marks) m).1, ⟨g.put, g.drop, (addF (fgK e.past g.marks) m).2⟩)
    else (0, g)
end Go.Proofs.YtmllihbhphnolaaGreat
