/- Part 8 of the ground of this proof: what its texts say of the model, the program and the plain data; conditions: those that are named. -/
import Derived.Laws.CopyRow
import Derived.Lib.Overlaps
import Derived.Lib.AppendZeros
import Derived.Laws.Externs
import Derived.RangeFuncSeq
import Derived.Test.YtajenkpjcbaadaaGreatD07
namespace Go.CF
open Go
section
variable {P : Program} {tt : Nat → Option TI} {en : Nat → Bool} {n : Nat} {γ : Type} [Membership Nat γ] {fp : γ} {c : Cls} {d : Tmp} {ty t u : TypeId} {env : Env} {h : Heap} {N : Env → Heap → Prop} {x y z : Operand} {k1 k2 : IntKind}
theorem run_copyG (w : World) (dT sT ty elem : TypeId) {i : TypeInfo} (g o dLen dCap : Nat) (a : Addr) (sLen sCap : Nat) (cur : Array Value) (t : TypeId) (cs : List Value)
  (hu : P.underlying dT = some (.slice elem)) (hi : P.info? elem = some i) (hg : w.heap[g]? = some (.cells cur t (0, 0))) (hn : cs.length = Nat.min sLen dLen * i.size)
  (hsrc : ∀ j v, cs[j]? = some v → w.cell? (a.add j) = some v) (hfit : o + cs.length ≤ cur.size) (h1 : ∀ v ∈ cs, v.oneCell' = true) :
  (Builtin.copy_ #[dT, sT] ty #[.slice (some ⟨g, o, none⟩) dLen dCap, .slice (some a) sLen sCap]).run P w =
   .ok (goInt (Nat.min sLen dLen : Nat)) (w.setRow g (cur.toList.take o ++ cs ++ cur.toList.drop (o + cs.length)).toArray) := by
 have hst := run_storeCells_at P g o t cs 0 cur w hg (by simpa using hfit) h1
 have hf := run_firstCells_some (P := P) w i.size (Nat.min sLen dLen) a sLen sCap cs hn hsrc
 simp only [Nat.add_zero] at hst
 simp [Builtin.copy_, run_underlying hu, Builtin.lenOf, sizeOf, typeInfo, hi, hf, hst]
theorem run_copy0 (w : World) (dT sT ty elem : TypeId) {i : TypeInfo} (p q : Option Addr) (dLen dCap sLen sCap : Nat) (hu : P.underlying dT = some (.slice elem)) (hi : P.info? elem = some i) (hn : Nat.min sLen dLen = 0) :
  (Builtin.copy_ #[dT, sT] ty #[.slice p dLen dCap, .slice q sLen sCap]).run P w = .ok (goInt (0 : Nat)) w := by
 have hl : ∀ (a : Addr), (Builtin.firstCells i.size 0 (.slice (some a) sLen sCap)).run P w = .ok #[] w := fun a => by
  have := run_firstCells_some (P := P) w i.size 0 a sLen sCap [] (by simp) (by simp)
  simpa using this
 have hs : ∀ (a : Addr), (storeCells a []).run P w = .ok () w := fun a => by simp [storeCells]
 cases p <;> cases q <;> simp [Builtin.copy_, run_underlying hu, Builtin.lenOf, sizeOf, typeInfo, hi, hn, hl, hs, run_firstCells_none]
theorem ld_copy (G : PgOK P tt en) {ti te : TI} {e b o dl dc m : Nat} {l news : List Value} {xv : Value} {K : Value → Heap → Prop} (ht : tt t = some ti) (hk : ti.kind = .slice e) (hte : tt e = some te)
  (hx : ev env x = some (.slice (some ⟨b, o, none⟩) dl dc)) (hy : ev env y = some xv) (hb : Blk h b e l) (hs : Sl h xv m news) (hm : news.length = m * te.size) (h1 : ∀ v ∈ news.take (min m dl * te.size), v.oneCell' = true) (hfit : o + min m dl * te.size ≤ l.length)
  (k : ∀ h', h'.size = h.size → Upd h b e (l.take o ++ news.take (min m dl * te.size) ++ l.drop (o + min m dl * te.size)) h' → K (.int .i64 (min m dl : Nat)) h') : Ld P n (.call { callee := .builtin .copy, args := #[x, y], argTypes := #[t, u] }) ty env h K := by
 intro a w oo next Q ha hw hop hty hn
 obtain ⟨i, dd, hi, hd, hi1, hi2, hi3, _⟩ := (G.ok _ _ hte).ok
 have hu := (G.ok _ _ ht).slice hk
 unfold Oper.wp
 have fin : ∀ w', (Builtin.copy_ #[t, u] ty #[.slice (some ⟨b, o, none⟩) dl dc, xv]).run P w = .ok (goInt (min m dl : Nat)) w' → Same w w' → w'.heap.size = h.size → Upd h b e (l.take o ++ news.take (min m dl * te.size) ++ l.drop (o + min m dl * te.size)) w'.heap → oo.upon P a next Q ((execOp a.eval oo).run P w) := by
  intro w' hr hsm hsz hup
  have hrun : (execOp a.eval (mkOp (.call { callee := .builtin .copy, args := #[x, y], argTypes := #[t, u] }) ty)).run P w = .ok (.value (goInt (min m dl : Nat))) w' := by
   simp [mkOp, execOp, resolve, invoke, builtin, ha.ev hx, ha.ev hy, hr]
  rw [exec_mk, hop, hty, hrun]
  exact hn _ w' hsm (k w'.heap hsz hup)
 have zero : min m dl = 0 → oo.upon P a next Q ((execOp a.eval oo).run P w) := fun h0 => by
  obtain ⟨q, qc, rfl⟩ := hs.shape
  have hr := run_copy0 (P := P) w t u ty e (some ⟨b, o, none⟩) q dl dc m qc hu hi h0
  rw [← show min m dl = 0 from h0] at hr
  refine fin w hr (Same.refl w) (by rw [hw]) ?_
  rw [h0, Nat.zero_mul, List.take_zero, List.append_nil, Nat.add_zero, List.take_append_drop, hw]
  refine ⟨hb.lt, ?_⟩
  obtain ⟨hlt, hget⟩ := Array.getElem?_eq_some_iff.1 hb.get
  apply Array.ext
  ·simp
  ·intro q h1 h2
   rw [Array.getElem_setIfInBounds]
   split
   ·rename_i hq;subst hq;exact hget
   ·rfl
 rcases hs.ok with ⟨p, cap, rfl, h2, h3⟩|⟨b', o', cap, rfl, hpos, hcap, _, hc⟩
 ·exact zero (by simp;omega)
 ·rcases Nat.eq_zero_or_pos (min m dl) with h0|h0
  ·exact zero h0
  ·have hg : w.heap[b]? = some (.cells l.toArray e (0, 0)) := hb.heap hw
   have hmin : min m dl * te.size ≤ m * te.size := Nat.mul_le_mul_right _ (Nat.min_le_left _ _)
   have hlen : (news.take (min m dl * te.size)).length = min m dl * te.size := by rw [List.length_take];omega
   have hr := run_copyG (P := P) w t u ty e (i := i) b o dl dc ⟨b', o', none⟩ m cap l.toArray e (news.take (min m dl * te.size)) hu hi hg (by rw [hlen, hi1])
    (fun j v hv => by
     rw [List.getElem?_take] at hv
     split at hv
     ·exact (hc.get j v hv).get w hw
     ·cases hv) (by rw [hlen];simpa using hfit) h1
   refine fin _ hr (Same.of_set hg rfl (World.setRow_heap' hg)) (by simp [World.setRow_heap' hg, hw]) ⟨hb.lt, ?_⟩
   rw [World.setRow_heap' hg, hw, hlen]
theorem St.cap (G : PgOK P tt en) {ti : TI} {e len cap : Nat} {p : Option Addr} (ht : tt t = some ti) (hk : ti.kind = .slice e) (hx : ev env x = some (.slice p len cap)) (k : N ((d, .int .i64 (cap : Nat)) :: env) h) :
  St P n fp c (some d) (.call { callee := .builtin .cap, args := #[x], argTypes := #[t] }) ty env h N :=
 .ofPu (v := .int .i64 (cap : Nat)) (fun a w ha => by
  have hu := (G.ok _ _ ht).slice hk
  simp [mkOp, execOp, resolve, invoke, builtin, ha.ev hx, Builtin.cap_, run_underlying hu, goInt]) k
end
end Go.CF
namespace Go.CF
open Go
/-! ### Lists in parts -/
theorem flat_take {α : Type} {sz : Nat} : ∀ (rows : List (List α)) (a : Nat), (∀ r ∈ rows, r.length = sz) → (rows.take a).flatten = rows.flatten.take (a * sz)
 | [], a, _ => by simp
 | r :: rs, 0, _ => by simp
 | r :: rs, a + 1, h => by
  have h1 := h r (by simp)
  have h2 : (a + 1) * sz = sz + a * sz := by rw [Nat.add_mul];omega
  rw [List.take_succ_cons, List.flatten_cons, List.flatten_cons, flat_take rs a fun q hq => h q (by simp [hq]), List.take_append, h2, List.take_of_length_le (l := r) (by omega), h1, Nat.add_sub_cancel_left]
theorem flat_drop {α : Type} {sz : Nat} : ∀ (rows : List (List α)) (a : Nat), (∀ r ∈ rows, r.length = sz) → (rows.drop a).flatten = rows.flatten.drop (a * sz)
 | [], a, _ => by simp
 | r :: rs, 0, _ => by simp
 | r :: rs, a + 1, h => by
  have h1 := h r (by simp)
  have h2 : (a + 1) * sz = sz + a * sz := by rw [Nat.add_mul];omega
  rw [List.drop_succ_cons, List.flatten_cons, flat_drop rs a fun q hq => h q (by simp [hq]), List.drop_append, h2, List.drop_of_length_le (l := r) (by omega), h1, Nat.add_sub_cancel_left, List.nil_append]
theorem own_write {α : Type} {l X : List α} {of a k : Nat} (hx : a + X.length ≤ k) (hk : of + k ≤ l.length) : ((l.take (of + a) ++ X ++ l.drop (of + a + X.length)).drop of).take k = ((l.drop of).take k).take a ++ X ++ ((l.drop of).take k).drop (a + X.length) := by
 apply List.ext_getElem?
 intro q
 simp only [List.getElem?_append, List.getElem?_take, List.getElem?_drop, List.length_append, List.length_take, List.length_drop]
 by_cases h1 : q < k
 ·by_cases h2 : q < a
  ·simp [h1, h2, show of + q < of + a by omega, show of + q < l.length by omega, show min a (min k (l.length - of)) = a by omega, show min (of + a) l.length = of + a by omega, show q < a + X.length by omega]
   intros;omega
  ·by_cases h3 : q < a + X.length
   ·simp [h1, h2, h3, show ¬ of + q < of + a by omega, show min a (min k (l.length - of)) = a by omega, show min (of + a) l.length = of + a by omega, show of + q - (of + a) = q - a by omega]
    intros;omega
   ·simp [h1, h3, show min a (min k (l.length - of)) = a by omega, show min (of + a) l.length = of + a by omega, show ¬ of + q < of + a + X.length by omega, show of + a + X.length + (of + q - (of + a + X.length)) = of + (a + X.length + (q - (a + X.length))) by omega]
    omega
 ·simp [h1, show min a (min k (l.length - of)) = a by omega, show ¬ q < a + X.length by omega]
  omega
end Go.CF
namespace Go.CF
open Go
section
variable {Γ : Cx} {k : List KI} {e : EA} {o : List Res} {N : NA} {c : Cls} {d : Tmp} {ty : TypeId} {x y z : Operand} {t u : TypeId} {kk : IntKind} {i : Int}
/-! ### Capacity -/
def capV : Value → Nat
 | .slice _ _ c => c
 | _ => 0
structure Cpv (Γ : Cx) (c : Cls) (d : Tmp) (t : TypeId) (x : Operand) (ty : TypeId) (e : EA) (o : List Res) (N : NA) (a : AV) : Prop where
 h : evA e x = some a → SA Γ c (some d) (.call { callee := .builtin .cap, args := #[x], argTypes := #[t] }) ty e o N
instance : Sp (SA Γ c (some d) (.call { callee := .builtin .cap, args := #[x], argTypes := #[t] }) ty e o N) (Lk (evA e x) fun a => Cpv Γ c d t x ty e o N a) := ⟨fun ⟨_, ha, h⟩ => h.h ha⟩
instance {v : Value} : Sp (Cpv Γ c d t x ty e o N (.ow v)) (Lk (slE Γ.tt t) fun _ => TkA o v fun _ _ l _ _ => Im (l.length ≤ capV v) (N ((d, .val (.int .i64 (capV v : Nat))) :: e) o)) := ⟨fun ⟨p, hp, α, T, sz, l, f, rest, tk, hn⟩ => ⟨fun ha => ⟨fun env hh G Os cn => by
 obtain ⟨w, g1, rfl, q, len, cap, rfl⟩ := cn.get ha
 obtain ⟨O, Os', cn2⟩ := cn.take tk
 obtain ⟨⟨_, rows, hw, _⟩, _⟩ := cn2.hp.own
 obtain ⟨ti, t1, t2, _⟩ := slE_spec hp
 have hlc : l.length ≤ cap := by
  rcases hw.ok with ⟨e1, e2⟩|⟨b', of, cap', L, e1, _, _, e2, _⟩
  ·cases e1;omega
  ·cases e1;exact e2
 exact St.cap Γ.ok t1 t2 g1 (CN.mk (cn.put d (a := .val _) rfl) (hn.k hlc))⟩⟩⟩

/-! ### Rows of plain values -/
def valR (r : List Value) : List AV := r.map AV.val
theorem repT_val {h : Heap} {G : Nat → Prop} : ∀ {vs r : List Value}, RepT h G vs (valR r) → vs = r
 | [], [], _ => rfl
 | _ :: _, _ :: _, ⟨h1, h2⟩ => by
  have h1 : _ = _ := h1
  rw [h1, repT_val h2]
 | [], _ :: _, h => h.elim
 | _ :: _, [], h => h.elim
theorem repT_val' {h : Heap} {G : Nat → Prop} : ∀ r : List Value, RepT h G r (valR r)
 | [] => trivial
 | _ :: r => ⟨rfl, repT_val' r⟩
theorem rows_val {h : Heap} {G : Nat → Prop} {sz : Nat} {rows L : List (List Value)} (hr : Rows h G sz rows L valR) : rows = L := by
 apply List.ext_getElem?
 intro j
 by_cases hj : j < L.length
 ·obtain ⟨r, h1⟩ := List.getElem?_eq_some_iff.2 ⟨by rw [hr.len];exact hj, rfl⟩ |> fun h => (⟨_, h⟩ : ∃ r, rows[j]? = some r)
  obtain ⟨s, h2⟩ : ∃ s, L[j]? = some s := ⟨_, List.getElem?_eq_getElem hj⟩
  rw [h1, h2, repT_val (hr.row j r s h1 h2).t]
 ·rw [List.getElem?_eq_none (by rw [hr.len];omega), List.getElem?_eq_none (by omega)]
structure RowsV (sz : Nat) (L : List (List Value)) : Prop where
 sz : ∀ r ∈ L, r.length = sz
 one : ∀ r ∈ L, ∀ u ∈ r, u.oneCell' = true
theorem RowsV.of {h : Heap} {G : Nat → Prop} {sz : Nat} {rows L : List (List Value)} (hr : Rows h G sz rows L valR) : RowsV sz L := by
 have e := rows_val hr
 subst e
 refine ⟨hr.sz, fun r hm u hu => ?_⟩
 obtain ⟨j, hj⟩ := List.getElem?_of_mem hm
 exact (hr.row j r r hj hj).one u hu
theorem RowsV.rows {sz : Nat} {L : List (List Value)} (hv : RowsV sz L) (h : Heap) (G : Nat → Prop) : Rows h G sz L L valR :=
 ⟨rfl, fun j r s h1 h2 => by rw [h1] at h2;cases h2;exact ⟨repT_val' r, fun u hu => hv.one r (List.mem_of_getElem? h1) u hu⟩, hv.sz⟩
theorem RowsV.flen {sz : Nat} {L : List (List Value)} (hv : RowsV sz L) : L.flatten.length = L.length * sz := flat_len L hv.sz
def arrX (v : Value) (T : TypeId) (sz : Nat) (L : List (List Value)) (m : Nat) : Res :=
  ⟨fun h O _ => (∀ x, O x ↔ x ∈ blkOf v) ∧ RowsV sz L ∧ L.length ≤ m ∧ ∃ junk, Own h v T sz m (L.flatten ++ junk),
   fun x ⟨ho, hv, hl, junk, hb⟩ => ⟨ho, hv, hl, junk, by
      rcases hb.ok with h1|⟨b, of, cap, L', e, hbl, h1, h2, h3⟩
      · exact ⟨hb.len_vs, .inl h1⟩
      · exact ⟨hb.len_vs, .inr ⟨b, of, cap, L', e, ⟨(x.same b (.inl ((ho b).2 (by simp [e, blkOf]))) hbl.lt).trans hbl.get⟩, h1, h2, h3⟩⟩⟩,
   fun _ ⟨ho, hv, hl, junk, hb⟩ => ⟨ho, hv, hl, junk, hb⟩,
   fun ⟨ho, _, _, _, hb⟩ y hy => hb.nc ((ho y).1 hy)⟩
def AV.ox (v : Value) : AV := ⟨fun _ _ u => u = v ∧ ∃ p len cap, v = .slice p len cap, fun _ h => h, fun _ h => h⟩
theorem CA.toX {y : Code} (q : Tmp) {v : Value} {T sz : Nat} {L : List (List Value)} {rest : List Res} (ht : lookA e q = some (.ow v)) (tk : Take o (arrR v T sz L valR) rest) (h : L.length ≤ capV v → CA Γ k y ((q, .ox v) :: e) (arrX v T sz L L.length :: rest)) : CA Γ k y e o := by
 refine ⟨fun env hh G Os cn => ?_⟩
 obtain ⟨O, Os', cn2⟩ := cn.take tk
 obtain ⟨⟨ho, rows, hw, hr⟩, hrest⟩ := cn2.hp.own
 have hv := RowsV.of hr
 have e1 := rows_val hr
 subst e1
 have c3 : Con Γ ⟨e, arrX v T sz rows rows.length :: rest⟩ env hh G (O :: Os') := ⟨cn2.hp.perm ⟨⟨ho, hv, Nat.le_refl _, [], by rw [List.append_nil];exact hw⟩, hrest⟩ (List.Perm.refl _), cn2.env, cn2.nf⟩
 have hcap : rows.length ≤ capV v := by
  rcases hw.ok with ⟨e1, e2⟩|⟨b', of, cap', L, e1, _, _, e2, _⟩
  ·rw [e2];exact Nat.zero_le _
  ·rw [e1];exact e2
 exact (h hcap).h env hh G (O :: Os') (con_re (σ := ⟨e, arrX v T sz rows rows.length :: rest⟩) c3 q (fun w hw' => by
  obtain ⟨w', g1, g2⟩ := cn.env q _ ht
  rw [hw'] at g1;cases g1;exact g2) ht)
structure TkX (o : List Res) (v : Value) (k : TypeId → Nat → List (List Value) → Nat → List Res → Prop) : Prop where
 ok : ∃ T sz L m rest, Take o (arrX v T sz L m) rest ∧ k T sz L m rest
theorem TkX.r {o rest : List Res} {v : Value} {k : TypeId → Nat → List (List Value) → Nat → List Res → Prop} {T : TypeId} {sz m : Nat} {L : List (List Value)} (h : Take o (arrX v T sz L m) rest) (hk : k T sz L m rest) : TkX o v k := ⟨T, sz, L, m, rest, h, hk⟩
instance {q : Operand} {v : Value} : Sp (Slp Γ c d t x (some q) none ty e o N (.ox v)) (Lk (slE Γ.tt t) fun p => TkX o v fun _ sz _ m _ => Rf (p.2.size = sz) (Lk (evA e q) fun a => Nb a fun i => Jx i m fun j => N ((d, .os v sz j (m - j)) :: e) o)) := ⟨fun ⟨p, hp, T, sz, L, m, rest, tk, hz, a, ha2, kk, i, hk, j, hij, hjm, hn⟩ => ⟨fun ha => ⟨fun env hh G Os cn => by
 obtain ⟨w, g1, rfl, q', len, cap, rfl⟩ := cn.get ha
 obtain ⟨O, Os', cn2⟩ := cn.take tk
 obtain ⟨⟨_, _, _, junk, hw⟩, _⟩ := cn2.hp.own
 have hlc : len = m ∧ m ≤ cap := by
  rcases hw.ok with ⟨e1, e2⟩|⟨b', of, cap', L', e1, _, _, e2, _⟩
  ·cases e1;omega
  ·cases e1;exact ⟨rfl, e2⟩
 obtain ⟨rfl, hlc⟩ := hlc
 exact slice_at (lo := some q) (hi := none) cn hp g1 hjm (Nat.le_refl _) hlc ⟨kk, i, hk ▸ ha2, hij⟩ rfl (CN.mk (cn.put d (a := .os _ sz j (len - j)) ⟨q', _, cap, rfl, by omega, by rw [hz]⟩) hn) (.inl (by simp))⟩⟩⟩
def reV : Value → Nat → Value
 | .slice p _ c, m => .slice (subA p 0 0 c) m c
 | v, _ => v
structure ExX (i : Int) (L m : Nat) (cp : Nat) (A X : Nat → Prop) : Prop where
 ok : ∃ j : Nat, i = (j : Int) ∧ j ≤ cp ∧ ((j ≤ L ∧ A j) ∨ (L ≤ j ∧ X j))
theorem ExX.short {i : Int} {L m cp : Nat} {A X : Nat → Prop} {j : Nat} (h : i = (j : Int)) (h1 : j ≤ cp) (h2 : j ≤ L) (hk : A j) : ExX i L m cp A X := ⟨j, h, h1, .inl ⟨h2, hk⟩⟩
theorem ExX.long {i : Int} {L m cp : Nat} {A X : Nat → Prop} {j : Nat} (h : i = (j : Int)) (h1 : j ≤ cp) (h2 : L ≤ j) (hk : X j) : ExX i L m cp A X := ⟨j, h, h1, .inr ⟨h2, hk⟩⟩
theorem subA_zero {p : Option Addr} {sz cap : Nat} (hp : ∀ a, p = some a → a.spot = none) : subA p sz 0 cap = p := by
 unfold subA
 split
 ·rfl
 ·cases p with
  | none => rfl
  | some a =>
   have := hp a rfl
   obtain ⟨b, of, sp⟩ := a
   simp only at this
   subst this
   simp [addr_add]
theorem own_short {h : Heap} {p : Option Addr} {len cap T sz m : Nat} {R : List Value} (hw : Own h (.slice p len cap) T sz len R) (hm : m ≤ len) : Own h (.slice p m cap) T sz m (R.take (m * sz)) := by
 have hl := hw.len_vs
 have hms : m * sz ≤ len * sz := Nat.mul_le_mul_right _ hm
 refine ⟨by rw [List.length_take];omega, ?_⟩
 rcases hw.ok with ⟨e1, e2⟩|⟨b, of, cap', l, e1, hb, h1, h2, h3⟩
 ·cases e1
  exact .inl ⟨by rw [show m = 0 by omega], by omega⟩
 ·cases e1
  exact .inr ⟨b, of, cap, l, rfl, hb, h1, by omega, by rw [← h3, List.take_take, Nat.min_eq_left hms]⟩
theorem own_long {h : Heap} {p : Option Addr} {len cap T sz m : Nat} {R : List Value} (hw : Own h (.slice p len cap) T sz len R) (hm : len ≤ m) (hc : m ≤ cap) : ∃ junk, Own h (.slice p m cap) T sz m (R ++ junk) := by
 have hl := hw.len_vs
 have hms : len * sz ≤ m * sz := Nat.mul_le_mul_right _ hm
 rcases hw.ok with ⟨e1, e2⟩|⟨b, of, cap', l, e1, hb, h1, h2, h3⟩
 ·cases e1
  obtain rfl : m = 0 := by omega
  exact ⟨[], by simpa using hw⟩
 ·cases e1
  have hmc : m * sz ≤ cap * sz := Nat.mul_le_mul_right _ hc
  refine ⟨(l.drop (of + len * sz)).take (m * sz - len * sz), ?_, .inr ⟨b, of, cap, l, rfl, hb, h1, hc, ?_⟩⟩
  ·rw [List.length_append, hl, List.length_take, List.length_drop];omega
  ·rw [← h3, ← List.drop_drop, show m * sz = len * sz + (m * sz - len * sz) by omega, List.take_add]
   simp
theorem own_spot {h : Heap} {p : Option Addr} {len cap T sz m : Nat} {R : List Value} (hw : Own h (.slice p len cap) T sz m R) : ∀ a, p = some a → a.spot = none := by
 intro a ha
 rcases hw.ok with ⟨e1, e2⟩|⟨b, of, cap', l, e1, _⟩
 ·cases e1;cases ha
 ·cases e1;cases ha;rfl
instance {q : Operand} {v : Value} : Sp (Slp Γ c d t x none (some q) ty e o N (.ox v)) (Lk (slE Γ.tt t) fun p => TkX o v fun T sz L m rest => Rf (p.2.size = sz) (Lk (evA e q) fun a => Nb a fun i =>
  ExX i L.length m (capV v) (fun j => N ((d, .ow (reV v j)) :: e) (arrR (reV v j) T sz (L.take j) valR :: rest)) (fun j => N ((d, .ox (reV v j)) :: e) (arrX (reV v j) T sz L j :: rest)))) := ⟨fun ⟨p, hp, T, sz, L, m, rest, tk, hz, a, ha2, kk, i, hk, j, hij, hjc, hn⟩ => ⟨fun ha => ⟨fun env hh G Os cn => by
 obtain ⟨w, g1, rfl, q', len, cap, rfl⟩ := cn.get ha
 obtain ⟨O, Os', cn2⟩ := cn.take tk
 obtain ⟨⟨ho, hv, hLm, junk, hw⟩, hrest⟩ := cn2.hp.own
 obtain ⟨ti, t1, t2, t3⟩ := slE_spec hp
 have hlc : len = m := by
  rcases hw.ok with ⟨e1, e2⟩|⟨b', of, cap', L', e1, _, _, e2, _⟩
  ·cases e1;omega
  ·cases e1;rfl
 subst hlc
 have hsp := own_spot hw
 have hre : subA q' 0 0 cap = q' := subA_zero hsp
 have hre2 : subA q' p.2.size 0 cap = q' := subA_zero hsp
 have hq : evA e q = some (.val (.int kk i)) := hk ▸ ha2
 obtain ⟨vq, hq1, hq2⟩ := cn.get hq
 have hq2 : vq = _ := hq2
 subst hq2
 have hblk : ∀ b, b ∈ blkOf (Value.slice q' j cap) ↔ b ∈ blkOf (Value.slice q' len cap) := by intro b;cases q' <;> simp [blkOf]
 have hev : reV (.slice q' len cap) j = .slice q' j cap := by simp only [reV, hre]
 rw [hev] at hn
 refine St.sliceH Γ.ok t1 t2 t3 g1 hq1 hij hjc ?_
 rw [hre2]
 rcases hn with ⟨hjL, hn⟩|⟨hjL, hn⟩
 ·have hsh := own_short hw (show j ≤ len by omega)
  have hfl := hv.flen
  have hjs : j * sz ≤ L.length * sz := Nat.mul_le_mul_right _ hjL
  have he : (L.flatten ++ junk).take (j * sz) = (L.take j).flatten := by
   rw [flat_take L j hv.sz, List.take_append_of_le_length (by omega)]
  rw [he] at hsh
  have hvt : RowsV sz (L.take j) := ⟨fun r hr => hv.sz r (List.mem_of_mem_take hr), fun r hr => hv.one r (List.mem_of_mem_take hr)⟩
  have c3 : Con Γ ⟨e, arrR (.slice q' j cap) T sz (L.take j) valR :: rest⟩ env hh G (O :: Os') := ⟨cn2.hp.perm ⟨⟨fun b => (ho b).trans (hblk b).symm, L.take j, by rw [List.length_take, Nat.min_eq_left hjL];exact hsh, hvt.rows hh G⟩, hrest⟩ (List.Perm.refl _), cn2.env, cn2.nf⟩
  exact CN.mk (c3.put d (a := .ow _) ⟨rfl, _, _, _, rfl⟩) hn
 ·by_cases hjl : j ≤ len
  ·have hsh := own_short hw hjl
   have hfl := hv.flen
   have hjs : L.length * sz ≤ j * sz := Nat.mul_le_mul_right _ hjL
   rw [List.take_append, List.take_of_length_le (by omega)] at hsh
   have c3 : Con Γ ⟨e, arrX (.slice q' j cap) T sz L j :: rest⟩ env hh G (O :: Os') := ⟨cn2.hp.perm ⟨⟨fun b => (ho b).trans (hblk b).symm, hv, hjL, _, hsh⟩, hrest⟩ (List.Perm.refl _), cn2.env, cn2.nf⟩
   exact CN.mk (c3.put d (a := .ox _) ⟨rfl, _, _, _, rfl⟩) hn
  ·obtain ⟨jk, hlg⟩ := own_long hw (show len ≤ j by omega) hjc
   have c3 : Con Γ ⟨e, arrX (.slice q' j cap) T sz L j :: rest⟩ env hh G (O :: Os') := ⟨cn2.hp.perm ⟨⟨fun b => (ho b).trans (hblk b).symm, hv, hjL, junk ++ jk, by rw [← List.append_assoc];exact hlg⟩, hrest⟩ (List.Perm.refl _), cn2.env, cn2.nf⟩
   exact CN.mk (c3.put d (a := .ox _) ⟨rfl, _, _, _, rfl⟩) hn⟩⟩⟩
end
end Go.CF
namespace Go.CF
open Go
section
variable {P : Program} {tt : Nat → Option TI} {en : Nat → Bool} {n : Nat} {ty t u : TypeId} {env : Env} {h : Heap} {x y : Operand}
theorem ld_copy0 (G : PgOK P tt en) {ti te : TI} {e dl dc m : Nat} {p : Option Addr} {news : List Value} {xv : Value} {K : Value → Heap → Prop} (ht : tt t = some ti) (hk : ti.kind = .slice e) (hte : tt e = some te)
  (hx : ev env x = some (.slice p dl dc)) (hy : ev env y = some xv) (hs : Sl h xv m news) (hm : min m dl = 0) (k : K (.int .i64 (0 : Nat)) h) : Ld P n (.call { callee := .builtin .copy, args := #[x, y], argTypes := #[t, u] }) ty env h K := by
 intro a w oo next Q ha hw hop hty hn
 obtain ⟨i, dd, hi, hd, hi1, hi2, hi3, _⟩ := (G.ok _ _ hte).ok
 have hu := (G.ok _ _ ht).slice hk
 obtain ⟨q, qc, rfl⟩ := hs.shape
 have hr := run_copy0 (P := P) w t u ty e p q dl dc m qc hu hi hm
 have hrun : (execOp a.eval (mkOp (.call { callee := .builtin .copy, args := #[x, y], argTypes := #[t, u] }) ty)).run P w = .ok (.value (goInt (0 : Nat))) w := by
  simp [mkOp, execOp, resolve, invoke, builtin, ha.ev hx, ha.ev hy, hr]
 unfold Oper.wp
 rw [exec_mk, hop, hty, hrun]
 exact hn _ w (Same.refl w) (hw ▸ k)
end
section
variable {Γ : Cx} {k : List KI} {e : EA} {o : List Res} {N : NA} {c : Cls} {d : Tmp} {ty : TypeId} {x y z : Operand} {t u : TypeId} {kk : IntKind} {i : Int}
structure Cpy (Γ : Cx) (c : Cls) (d : Tmp) (t u : TypeId) (x y : Operand) (ty : TypeId) (e : EA) (o : List Res) (N : NA) (a b : AV) : Prop where
 h : evA e x = some a → evA e y = some b → isLoud c = true → SA Γ c (some d) (.call { callee := .builtin .copy, args := #[x, y], argTypes := #[t, u] }) ty e o N
instance : Sp (SA Γ c (some d) (.call { callee := .builtin .copy, args := #[x, y], argTypes := #[t, u] }) ty e o N) (Rf (isLoud c = true) (Lk (evA e x) fun a => Lk (evA e y) fun b => Cpy Γ c d t u x y ty e o N a b)) := ⟨fun ⟨hc, _, ha, _, hb, h⟩ => h.h ha hb hc⟩
theorem own_seg {h h' : Heap} {b of cap len T sz : Nat} {l X : List Value} {R : List Value} {j cnt : Nat} (hw : Own h (.slice (some ⟨b, of, none⟩) len cap) T sz len R) (hX : X.length = cnt * sz) (hj : j + cnt ≤ len)
  (hu : Upd h b T (l.take (of + j * sz) ++ X ++ l.drop (of + j * sz + cnt * sz)) h') (hfit : of + cap * sz ≤ l.length) (hlc : len ≤ cap) (hR : (l.drop of).take (len * sz) = R) : Own h' (.slice (some ⟨b, of, none⟩) len cap) T sz len (R.take (j * sz) ++ X ++ R.drop (j * sz + cnt * sz)) := by
 have hjs : j * sz + cnt * sz ≤ len * sz := by rw [← Nat.add_mul];exact Nat.mul_le_mul_right _ hj
 have hls : len * sz ≤ cap * sz := Nat.mul_le_mul_right _ hlc
 have hl := hw.len_vs
 refine ⟨by simp only [List.length_append, List.length_take, List.length_drop];omega, .inr ⟨b, of, cap, _, rfl, hu.blk, ?_, hlc, ?_⟩⟩
 ·simp only [List.length_append, List.length_take, List.length_drop];omega
 ·rw [← hX, own_write (by rw [hX];exact hjs) (by omega), hR]
theorem Upd.fpx {h h' : Heap} {b : Nat} {T : TypeId} {l : List Value} (hu : Upd h b T l h') {O : Nat → Prop} (ho : O b) : FPx (fun y => ¬ O y) h h' :=
 ⟨hu.stp.size, fun y hy hl => hu.stp.same y hl (fun hm => hy (by rw [List.mem_singleton.1 hm];exact ho))⟩
theorem con_seg {h' : Heap} {hh : Heap} {env : Env} {G : Nat → Prop} {R R' : Res} {rest : List Res} {O : Nat → Prop} {Os : List (Nat → Prop)} {b : Nat} {T : TypeId} {l : List Value} (cn : Con Γ ⟨e, R :: rest⟩ env hh G (O :: Os)) (hu : Upd hh b T l h') (ho : O b) (hr : FPx G hh h' → R'.R h' O G) : Con Γ ⟨e, R' :: rest⟩ env h' G (O :: Os) := by
 have hx := hu.fpx ho
 have hg : FPx G hh h' := hx.mono fun y hy hoy => (cn.hp.o O (by simp) y hoy).2.2 hy
 exact cn.upd (R' := R') (O' := O) hx (fun y hy => ⟨Nat.lt_of_lt_of_le (cn.hp.o O (by simp) y hy).1 hu.stp.size, .inl hy⟩) (hr hg)
instance {v : Value} {s j m : Nat} {b : AV} : Sp (Cpy Γ c d t u x y ty e o N (.os v s j m) b) (Lk (slE Γ.tt t) fun p => Src o b p.2.size fun q g => TkA o v fun T sz l f rest => Rf (T = p.1 ∧ sz = p.2.size ∧ s = sz) (Mp q g f fun q' =>
  N ((d, .val (.int .i64 (min q'.length m : Nat))) :: e) (arrR v T sz (l.take j ++ q'.take (min q'.length m) ++ l.drop (j + min q'.length m)) f :: rest))) := ⟨fun ⟨p, hp, β, q, g, ⟨α, T, sz, l, f, rest, tk, ⟨hT, hz, hs⟩, q', hq', hn⟩, hsrc⟩ => ⟨fun ha hb hc => ⟨fun env hh G Os cn => by
 obtain ⟨w, g1, p0, len, cap, rfl, hjm, rfl⟩ := cn.get ha
 obtain ⟨w2, g2, r2⟩ := cn.get hb
 obtain ⟨srows, hsl, hsr⟩ := hsrc cn.hp r2
 have hql : q'.length = q.length := by have := congrArg List.length hq';simpa using this
 have hsr' := hsr.map hq'
 subst hs;subst hT;subst hz
 obtain ⟨ti, t1, t2, t3⟩ := slE_spec hp
 obtain ⟨O, Os', cn2⟩ := cn.take tk
 obtain ⟨⟨ho, rows, hw, hr⟩, hrest⟩ := cn2.hp.own
 by_cases h0 : min q'.length m = 0
 ·refine .ofLd hc (ld_copy0 Γ.ok t1 t2 t3 g1 g2 hsl (by rw [← hql];exact h0) ?_)
  rw [h0, List.take_zero, List.append_nil, Nat.add_zero, List.take_append_drop] at hn
  exact CN.mk (cn2.put d (a := .val (.int .i64 (0 : Nat))) rfl) hn
 ·rcases hw.ok with ⟨e1, e2⟩|⟨b, of, cap', L, e1, hbk, h1, h2, h3⟩
  ·cases e1;omega
  ·cases e1
   have hsub : subA (some ⟨b, of, none⟩) p.2.size j cap = some ⟨b, of + j * p.2.size, none⟩ := by
    unfold subA;rw [if_neg (by omega)];simp [addr_add]
   rw [hsub] at g1
   have hlen := hw.len_vs
   have hssz := hsr.sz
   have hsfl : srows.flatten.length = q.length * p.2.size := by rw [hsr.flen]
   have hmin : min q'.length m * p.2.size ≤ q.length * p.2.size := Nat.mul_le_mul_right _ (by omega)
   have hjs : j * p.2.size + min q'.length m * p.2.size ≤ l.length * p.2.size := by rw [← Nat.add_mul];exact Nat.mul_le_mul_right _ (by omega)
   have hls : l.length * p.2.size ≤ cap * p.2.size := Nat.mul_le_mul_right _ h2
   refine .ofLd hc (ld_copy Γ.ok t1 t2 t3 g1 g2 hbk hsl hsfl (fun v hv => hsr.one v (List.mem_of_mem_take hv)) (by rw [← hql];omega) fun h' hsz hu => ?_)
   rw [← hql] at hu ⊢
   have hob : O b := (ho b).2 (by simp [blkOf])
   have hX : (srows.flatten.take (min q'.length m * p.2.size)).length = min q'.length m * p.2.size := by rw [List.length_take];omega
   have hown := own_seg (j := j) hw hX (by omega) hu h1 h2 h3
   have hlen2 : (l.take j ++ q'.take (min q'.length m) ++ l.drop (j + min q'.length m)).length = l.length := by simp;omega
   have hfl : (rows.take j ++ srows.take (min q'.length m) ++ rows.drop (j + min q'.length m)).flatten = rows.flatten.take (j * p.2.size) ++ srows.flatten.take (min q'.length m * p.2.size) ++ rows.flatten.drop (j * p.2.size + min q'.length m * p.2.size) := by
    rw [List.flatten_append, List.flatten_append, flat_take rows j hr.sz, flat_take srows _ hssz, flat_drop rows _ hr.sz, Nat.add_mul]
   have c3 := con_seg (R' := arrR (.slice (some ⟨b, of, none⟩) l.length cap) p.1 p.2.size (l.take j ++ q'.take (min q'.length m) ++ l.drop (j + min q'.length m)) f) cn2 hu hob (fun hg => ⟨ho, rows.take j ++ srows.take (min q'.length m) ++ rows.drop (j + min q'.length m), by rw [hlen2, hfl];exact hown, (((hr.take j).app (hsr'.take _)).app (hr.drop _)).stp hg⟩)
   exact CN.mk (c3.put d (a := .val _) rfl) hn⟩⟩⟩
end
end Go.CF
namespace Go.CF
open Go
section
variable {Γ : Cx} {k : List KI} {e : EA} {o : List Res} {N : NA} {c : Cls} {d : Tmp} {ty : TypeId} {x y z : Operand} {t u : TypeId} {kk : IntKind} {i : Int}
structure CpS (o : List Res) (v : Value) (A : Prop) (X : TypeId → Nat → List (List Value) → Nat → List Res → Prop) : Prop where
 ok : A ∨ ∃ T sz L m rest, Take o (arrX v T sz L m) rest ∧ X T sz L m rest
theorem CpS.all {α : Type} {o rest : List Res} {v : Value} {A : Prop} {X : TypeId → Nat → List (List Value) → Nat → List Res → Prop} {T : TypeId} {sz : Nat} {l : List α} {f : α → List AV} (_ : Take o (arrR v T sz l f) rest) (h : A) : CpS o v A X := ⟨.inl h⟩
theorem CpS.part {o rest : List Res} {v : Value} {A : Prop} {X : TypeId → Nat → List (List Value) → Nat → List Res → Prop} {T : TypeId} {sz m : Nat} {L : List (List Value)} (tk : Take o (arrX v T sz L m) rest) (h : X T sz L m rest) : CpS o v A X := ⟨.inr ⟨T, sz, L, m, rest, tk, h⟩⟩
structure Cpg (Γ : Cx) (c : Cls) (d : Tmp) (t u : TypeId) (x y : Operand) (ty : TypeId) (e : EA) (o : List Res) (N : NA) (v : Value) (s j m : Nat) (b : AV) : Prop where
 h : Lk (slE Γ.tt t) fun p => Src o b p.2.size fun q g => TkA o v fun T sz l f rest => Rf (T = p.1 ∧ sz = p.2.size ∧ s = sz) (Mp q g f fun q' =>
  N ((d, .val (.int .i64 (min q'.length m : Nat))) :: e) (arrR v T sz (l.take j ++ q'.take (min q'.length m) ++ l.drop (j + min q'.length m)) f :: rest))
instance {v : Value} {s j m : Nat} {b : AV} : Sp (Cpg Γ c d t u x y ty e o N v s j m b) (Lk (slE Γ.tt t) fun p => Src o b p.2.size fun q g => TkA o v fun T sz l f rest => Rf (T = p.1 ∧ sz = p.2.size ∧ s = sz) (Mp q g f fun q' =>
  N ((d, .val (.int .i64 (min q'.length m : Nat))) :: e) (arrR v T sz (l.take j ++ q'.take (min q'.length m) ++ l.drop (j + min q'.length m)) f :: rest))) := ⟨fun h => ⟨h⟩⟩
instance (priority := 1100) {v : Value} {s j m s' j' m' : Nat} : Sp (Cpy Γ c d t u x y ty e o N (.os v s j m) (.os v s' j' m')) (CpS o v (Cpg Γ c d t u x y ty e o N v s j m (.os v s' j' m')) fun T sz L M rest => Lk (slE Γ.tt t) fun p => Rf (T = p.1 ∧ sz = p.2.size ∧ s = sz) (Rf (s' = sz)
  (Om (j' + min m' m ≤ L.length ∧ j ≤ L.length ∧ j + min m' m = M) (N ((d, .val (.int .i64 (min m' m : Nat))) :: e) (arrR v T sz (L.take j ++ (L.drop j').take (min m' m)) valR :: rest))))) := ⟨fun ⟨hor⟩ => by
 rcases hor with hA|⟨T, sz, L, M, rest, tk, p, hp, ⟨hT, hz, hs⟩, hs', ⟨hc1, hc2, hc3⟩, hn⟩
 ·exact Sp.h hA.h
 ·subst hs;subst hT;subst hz;subst hs'
  refine ⟨fun ha hb hc => ⟨fun env hh G Os cn => ?_⟩⟩
  obtain ⟨w, g1, p0, len, cap, rfl, hjm, rfl⟩ := cn.get ha
  obtain ⟨w2, g2, p1, len1, cap1, e2, hjm2, rfl⟩ := cn.get hb
  cases e2
  obtain ⟨ti, t1, t2, t3⟩ := slE_spec hp
  obtain ⟨O, Os', cn2⟩ := cn.take tk
  obtain ⟨⟨ho, hv, hLM, junk, hw⟩, hrest⟩ := cn2.hp.own
  rcases hw.ok with ⟨e1, e2⟩|⟨b, of, cap', l, e1, hbk, h1, h2, h3⟩
  ·cases e1
   have hL0 : L.length = 0 := by omega
   have hm0 : min m' m = 0 := by omega
   refine .ofLd hc (ld_copy0 Γ.ok t1 t2 t3 g1 g2 (m := m') (news := []) ⟨.inl ⟨_, _, by rw [show m' = 0 by omega], by omega, rfl⟩⟩ hm0 ?_)
   have hLn : L = [] := List.eq_nil_of_length_eq_zero hL0
   subst hLn
   rw [hm0, List.take_nil, List.drop_nil, List.take_nil, List.append_nil] at hn
   have hM : M = 0 := by omega
   subst hM
   have c3 : Con Γ ⟨e, arrR (.slice none 0 0) p.1 p.2.size [] valR :: rest⟩ env hh G (O :: Os') := ⟨cn2.hp.perm ⟨⟨ho, [], by simpa using (Own.nil : Own hh _ p.1 p.2.size 0 []), Rows.nil⟩, hrest⟩ (List.Perm.refl _), cn2.env, cn2.nf⟩
   exact CN.mk (c3.put d (a := .val (.int .i64 (0 : Nat))) rfl) hn
  ·cases e1
   have hfl := hv.flen
   have hlen := hw.len_vs
   have hMs : L.length * p.2.size ≤ M * p.2.size := Nat.mul_le_mul_right _ hLM
   have hMc : M * p.2.size ≤ cap * p.2.size := Nat.mul_le_mul_right _ h2
   by_cases h0 : min m' m = 0
   ·have hjM : j = M := by omega
    have hLe : L.length = M := by omega
    have hr0 : ∃ news, Sl hh (.slice (subA (some ⟨b, of, none⟩) p.2.size j' cap) m' (cap - j')) m' news := by
     rcases Nat.eq_zero_or_pos m' with hz|hz
     ·exact ⟨[], ⟨.inl ⟨_, _, by rw [hz], hz, rfl⟩⟩⟩
     ·refine ⟨(l.drop (of + j' * p.2.size)).take (m' * p.2.size), ⟨.inr ⟨b, of + j' * p.2.size, cap - j', ?_, hz, by omega, hbk.lt, hbk.cels _ _⟩⟩⟩
      unfold subA;rw [if_neg (by omega)];simp [addr_add]
    obtain ⟨news, hsl⟩ := hr0
    refine .ofLd hc (ld_copy0 Γ.ok t1 t2 t3 g1 g2 hsl h0 ?_)
    rw [h0, List.take_zero, List.append_nil, List.take_of_length_le (by omega)] at hn
    have hjk : junk = [] := List.eq_nil_of_length_eq_zero (by rw [List.length_append] at hlen;rw [hLe] at hfl;omega)
    subst hjk
    have c3 : Con Γ ⟨e, arrR (.slice (some ⟨b, of, none⟩) M cap) p.1 p.2.size L valR :: rest⟩ env hh G (O :: Os') := ⟨cn2.hp.perm ⟨⟨ho, L, by rw [hLe];simpa using hw, hv.rows hh G⟩, hrest⟩ (List.Perm.refl _), cn2.env, cn2.nf⟩
    exact CN.mk (c3.put d (a := .val (.int .i64 (0 : Nat))) rfl) hn
   ·have hsub : ∀ q, q < cap → subA (some ⟨b, of, none⟩) p.2.size q cap = some ⟨b, of + q * p.2.size, none⟩ := fun q hq => by
     unfold subA;rw [if_neg (by omega)];simp [addr_add]
    rw [hsub j (by omega)] at g1
    rw [hsub j' (by omega)] at g2
    have hjs : j' * p.2.size + min m' m * p.2.size ≤ L.length * p.2.size := by rw [← Nat.add_mul];exact Nat.mul_le_mul_right _ hc1
    have hjd : j * p.2.size + min m' m * p.2.size = M * p.2.size := by rw [← Nat.add_mul, hc3]
    have hm's : min m' m * p.2.size ≤ m' * p.2.size := Nat.mul_le_mul_right _ (by omega)
    -- what is read
    have hseg : ((l.drop (of + j' * p.2.size)).take (m' * p.2.size)).take (min m' m * p.2.size) = (L.flatten.drop (j' * p.2.size)).take (min m' m * p.2.size) := by
     have e9 : L.flatten = ((l.drop of).take (M * p.2.size)).take (L.length * p.2.size) := by rw [h3, ← hfl, List.take_left]
     rw [e9]
     simp only [List.take_take, List.drop_take, List.drop_drop]
     congr 1
     omega
    have hm'l : of + j' * p.2.size + m' * p.2.size ≤ l.length := by
     have : j' * p.2.size + m' * p.2.size ≤ M * p.2.size := by rw [← Nat.add_mul];exact Nat.mul_le_mul_right _ (by omega)
     omega
    have hsrc : Sl hh (.slice (some ⟨b, of + j' * p.2.size, none⟩) m' (cap - j')) m' ((l.drop (of + j' * p.2.size)).take (m' * p.2.size)) := ⟨.inr ⟨b, of + j' * p.2.size, cap - j', rfl, by omega, by omega, hbk.lt, hbk.cels _ _⟩⟩
    have hX1 : ((L.flatten.drop (j' * p.2.size)).take (min m' m * p.2.size)).length = min m' m * p.2.size := by rw [List.length_take, List.length_drop];omega
    have hone : ∀ w ∈ L.flatten, w.oneCell' = true := fun w hw => by
     obtain ⟨r, hr, hw⟩ := List.mem_flatten.1 hw
     exact hv.one r hr w hw
    refine .ofLd hc (ld_copy Γ.ok t1 t2 t3 g1 g2 hbk hsrc (by rw [List.length_take, List.length_drop];omega) (fun w hw => by rw [hseg] at hw;exact hone w (List.mem_of_mem_drop (List.mem_of_mem_take hw))) (by omega) fun h' hsz hu => ?_)
    rw [hseg] at hu
    have hob : O b := (ho b).2 (by simp [blkOf])
    have hown := own_seg (j := j) hw hX1 (by omega) hu h1 h2 h3
    have hLj : j * p.2.size ≤ L.length * p.2.size := Nat.mul_le_mul_right _ hc2
    rw [List.take_append_of_le_length (by omega), List.drop_of_length_le (l := L.flatten ++ junk) (by rw [hlen];omega), List.append_nil] at hown
    have hvn : RowsV p.2.size (L.take j ++ (L.drop j').take (min m' m)) := ⟨fun r hr => by
      rcases List.mem_append.1 hr with h|h
      ·exact hv.sz r (List.mem_of_mem_take h)
      ·exact hv.sz r (List.mem_of_mem_drop (List.mem_of_mem_take h)), fun r hr => by
      rcases List.mem_append.1 hr with h|h
      ·exact hv.one r (List.mem_of_mem_take h)
      ·exact hv.one r (List.mem_of_mem_drop (List.mem_of_mem_take h))⟩
    have hfl2 : (L.take j ++ (L.drop j').take (min m' m)).flatten = L.flatten.take (j * p.2.size) ++ (L.flatten.drop (j' * p.2.size)).take (min m' m * p.2.size) := by
     rw [List.flatten_append, flat_take L j hv.sz, flat_take _ _ (fun r hr => hv.sz r (List.mem_of_mem_drop hr)), flat_drop L _ hv.sz]
    have hln : (L.take j ++ (L.drop j').take (min m' m)).length = M := by simp;omega
    have c3 := con_seg (R' := arrR (.slice (some ⟨b, of, none⟩) M cap) p.1 p.2.size (L.take j ++ (L.drop j').take (min m' m)) valR) cn2 hu hob (fun _ => ⟨ho, _, by rw [hln, hfl2];exact hown, hvn.rows h' G⟩)
    exact CN.mk (c3.put d (a := .val _) rfl) hn⟩
end
end Go.CF
namespace Go.CF
open Go
section
variable {Γ : Cx} {k : List KI} {e : EA} {o : List Res} {N : NA} {c : Cls} {d : Tmp} {ty : TypeId} {x y z : Operand} {t u : TypeId} {kk : IntKind} {i : Int}
structure Clr (Γ : Cx) (c : Cls) (t : TypeId) (x : Operand) (ty : TypeId) (e : EA) (o : List Res) (N : NA) (a : AV) : Prop where
 h : evA e x = some a → isLoud c = true → SA Γ c none (.call { callee := .builtin .clear, args := #[x], argTypes := #[t] }) ty e o N
instance : Sp (SA Γ c none (.call { callee := .builtin .clear, args := #[x], argTypes := #[t] }) ty e o N) (Rf (isLoud c = true) (Lk (evA e x) fun a => Clr Γ c t x ty e o N a)) := ⟨fun ⟨hc, _, ha, h⟩ => h.h ha hc⟩
instance {v : Value} {s j m : Nat} : Sp (Clr Γ c t x ty e o N (.os v s j m)) (Lk (slE Γ.tt t) fun p => TkX o v fun T sz L M rest => Rf (T = p.1 ∧ sz = p.2.size ∧ s = sz) (Rf (p.2.zero.cells.toList.all Value.oneCell' = true ∧ p.2.zero.cells.size = p.2.size) (Om (0 < m ∧ j ≤ L.length) (N e (arrX v T sz (L.take j) M :: rest))))) := ⟨fun ⟨p, hp, T, sz, L, M, rest, tk, ⟨hT, hz, hs⟩, ⟨hz1, hz2⟩, ⟨hm, hjL⟩, hn⟩ => ⟨fun ha hc => ⟨fun env hh G Os cn => by
 subst hs;subst hT;subst hz
 obtain ⟨w, g1, p0, len, cap, rfl, hjm, rfl⟩ := cn.get ha
 obtain ⟨ti, t1, t2, t3⟩ := slE_spec hp
 obtain ⟨O, Os', cn2⟩ := cn.take tk
 obtain ⟨⟨ho, hv, hLM, junk, hw⟩, hrest⟩ := cn2.hp.own
 rcases hw.ok with ⟨e1, e2⟩|⟨b, of, cap', l, e1, hbk, h1, h2, h3⟩
 ·cases e1;omega
 ·cases e1
  obtain ⟨q, rfl⟩ : ∃ q, m = q + 1 := ⟨m - 1, by omega⟩
  have hMc : M * p.2.size ≤ cap * p.2.size := Nat.mul_le_mul_right _ h2
  have hjs : j * p.2.size + (q + 1) * p.2.size ≤ M * p.2.size := by rw [← Nat.add_mul];exact Nat.mul_le_mul_right _ hjm
  have hsub : subA (some ⟨b, of, none⟩) p.2.size j cap = some ⟨b, of + j * p.2.size, none⟩ := by unfold subA;rw [if_neg (by omega)];simp [addr_add]
  rw [hsub] at g1
  refine St.clearS Γ.ok t1 t2 t3 (fun u hu => List.all_eq_true.1 hz1 u hu) hz2 g1 hbk (by omega) hc fun h' l' hu hsz hl' hsame => ?_
  have hob : O b := (ho b).2 (by simp [blkOf])
  have hfl := hv.flen
  have hLjs : j * p.2.size ≤ L.length * p.2.size := Nat.mul_le_mul_right _ hjL
  have hvt : RowsV p.2.size (L.take j) := ⟨fun r hr => hv.sz r (List.mem_of_mem_take hr), fun r hr => hv.one r (List.mem_of_mem_take hr)⟩
  have hpre : (l'.drop of).take (j * p.2.size) = (L.take j).flatten := by
   rw [flat_take L j hv.sz]
   have e9 : L.flatten.take (j * p.2.size) = (l.drop of).take (j * p.2.size) := by
    have e8 : ((l.drop of).take (M * p.2.size)).take (j * p.2.size) = (L.flatten ++ junk).take (j * p.2.size) := by rw [h3]
    rw [List.take_append_of_le_length (by omega), List.take_take, Nat.min_eq_left (by omega)] at e8
    exact e8.symm
   rw [e9]
   apply List.ext_getElem?
   intro r
   simp only [List.getElem?_take, List.getElem?_drop]
   split
   ·exact hsame _ (by omega)
   ·rfl
  have c3 := con_seg (R' := arrX (.slice (some ⟨b, of, none⟩) M cap) p.1 p.2.size (L.take j) M) cn2 hu hob (fun _ => ⟨ho, hvt, by rw [List.length_take];omega, ((l'.drop of).take (M * p.2.size)).drop (j * p.2.size), by rw [List.length_append, ← hpre];simp only [List.length_take, List.length_drop, hl'];omega, .inr ⟨b, of, cap, l', rfl, hu.blk, by omega, h2, by
   rw [← hpre]
   conv => lhs;rw [← List.take_append_drop (j * p.2.size) ((l'.drop of).take (M * p.2.size)), List.take_take, Nat.min_eq_left (by omega)]⟩⟩)
  exact CN.mk c3 hn⟩⟩⟩
instance (priority := 1050) {v : Value} {s j m : Nat} {b : AV} : Sp (Cpy Γ c d t u x y ty e o N (.os v s j m) b) (CpS o v (Cpg Γ c d t u x y ty e o N v s j m b) fun T sz L M rest => Lk (slE Γ.tt t) fun p => Rf (T = p.1 ∧ sz = p.2.size ∧ s = sz) (Src o b p.2.size fun q g => Mp q g valR fun q' =>
  Om (j ≤ L.length) (N ((d, .val (.int .i64 (min q'.length m : Nat))) :: e) (arrX v T sz (L.take j ++ q'.take (min q'.length m)) M :: rest)))) := ⟨fun ⟨hor⟩ => by
 rcases hor with hA|⟨T, sz, L, M, rest, tk, p, hp, ⟨hT, hz, hs⟩, β, q, g, ⟨q', hq', hc2, hn⟩, hsrc⟩
 ·exact Sp.h hA.h
 ·subst hs;subst hT;subst hz
  refine ⟨fun ha hb hc => ⟨fun env hh G Os cn => ?_⟩⟩
  obtain ⟨w, g1, p0, len, cap, rfl, hjm, rfl⟩ := cn.get ha
  obtain ⟨w2, g2, r2⟩ := cn.get hb
  obtain ⟨srows, hsl, hsr⟩ := hsrc cn.hp r2
  have hql : q'.length = q.length := by have := congrArg List.length hq';simpa using this
  have hsr' := hsr.map hq'
  have hsv := RowsV.of hsr'
  have e9 := rows_val hsr'
  subst e9
  obtain ⟨ti, t1, t2, t3⟩ := slE_spec hp
  obtain ⟨O, Os', cn2⟩ := cn.take tk
  obtain ⟨⟨ho, hv, hLM, junk, hw⟩, hrest⟩ := cn2.hp.own
  have hvt : RowsV p.2.size (L.take j ++ srows.take (min srows.length m)) := ⟨fun r hr => by
    rcases List.mem_append.1 hr with h|h
    ·exact hv.sz r (List.mem_of_mem_take h)
    ·exact hsv.sz r (List.mem_of_mem_take h), fun r hr => by
    rcases List.mem_append.1 hr with h|h
    ·exact hv.one r (List.mem_of_mem_take h)
    ·exact hsv.one r (List.mem_of_mem_take h)⟩
  have hfl := hv.flen
  have hsfl := hsv.flen
  have hlen := hw.len_vs
  have hfl2 : (L.take j ++ srows.take (min srows.length m)).flatten = L.flatten.take (j * p.2.size) ++ srows.flatten.take (min srows.length m * p.2.size) := by
   rw [List.flatten_append, flat_take L j hv.sz, flat_take _ _ hsv.sz]
  have hLj : j * p.2.size ≤ L.length * p.2.size := Nat.mul_le_mul_right _ hc2
  rcases hw.ok with ⟨e1, e2⟩|⟨b, of, cap', l, e1, hbk, h1, h2, h3⟩
  ·cases e1
   have h0 : min srows.length m = 0 := by omega
   refine .ofLd hc (ld_copy0 Γ.ok t1 t2 t3 g1 g2 hsl (by rw [← hql];exact h0) ?_)
   rw [h0, List.take_zero, List.append_nil] at hn
   rw [h0, List.take_zero, List.append_nil] at hvt
   have c3 : Con Γ ⟨e, arrX (.slice none 0 0) p.1 p.2.size (L.take j) M :: rest⟩ env hh G (O :: Os') := ⟨cn2.hp.perm ⟨⟨ho, hvt, by rw [List.length_take];omega, L.flatten.drop (j * p.2.size) ++ junk, by rw [← List.append_assoc, flat_take L j hv.sz, List.take_append_drop];exact hw⟩, hrest⟩ (List.Perm.refl _), cn2.env, cn2.nf⟩
   exact CN.mk (c3.put d (a := .val (.int .i64 (0 : Nat))) rfl) hn
  ·cases e1
   by_cases h0 : min srows.length m = 0
   ·refine .ofLd hc (ld_copy0 Γ.ok t1 t2 t3 g1 g2 hsl (by rw [← hql];exact h0) ?_)
    rw [h0, List.take_zero, List.append_nil] at hn
    rw [h0, List.take_zero, List.append_nil] at hvt
    have c3 : Con Γ ⟨e, arrX (.slice (some ⟨b, of, none⟩) M cap) p.1 p.2.size (L.take j) M :: rest⟩ env hh G (O :: Os') := ⟨cn2.hp.perm ⟨⟨ho, hvt, by rw [List.length_take];omega, L.flatten.drop (j * p.2.size) ++ junk, by rw [← List.append_assoc, flat_take L j hv.sz, List.take_append_drop];exact hw⟩, hrest⟩ (List.Perm.refl _), cn2.env, cn2.nf⟩
    exact CN.mk (c3.put d (a := .val (.int .i64 (0 : Nat))) rfl) hn
   ·have hsub : subA (some ⟨b, of, none⟩) p.2.size j cap = some ⟨b, of + j * p.2.size, none⟩ := by unfold subA;rw [if_neg (by omega)];simp [addr_add]
    rw [hsub] at g1
    have hMc : M * p.2.size ≤ cap * p.2.size := Nat.mul_le_mul_right _ h2
    have hjs : j * p.2.size + min srows.length m * p.2.size ≤ M * p.2.size := by rw [← Nat.add_mul];exact Nat.mul_le_mul_right _ (by omega)
    have hmin : min srows.length m * p.2.size ≤ srows.length * p.2.size := Nat.mul_le_mul_right _ (by omega)
    have hone : ∀ w ∈ srows.flatten, w.oneCell' = true := fun w hw => by
     obtain ⟨r, hr, hw⟩ := List.mem_flatten.1 hw
     exact hsv.one r hr w hw
    refine .ofLd hc (ld_copy Γ.ok t1 t2 t3 g1 g2 hbk hsl (by rw [hsfl, hql]) (fun w hw => hone w (List.mem_of_mem_take hw)) (by rw [← hql];omega) fun h' hsz hu => ?_)
    rw [← hql] at hu ⊢
    have hob : O b := (ho b).2 (by simp [blkOf])
    have hX : (srows.flatten.take (min srows.length m * p.2.size)).length = min srows.length m * p.2.size := by rw [List.length_take];omega
    have hown := own_seg (j := j) hw hX (by omega) hu h1 h2 h3
    rw [List.take_append_of_le_length (by omega), ← hfl2] at hown
    have c3 := con_seg (R' := arrX (.slice (some ⟨b, of, none⟩) M cap) p.1 p.2.size (L.take j ++ srows.take (min srows.length m)) M) cn2 hu hob (fun _ => ⟨ho, hvt, by rw [List.length_append, List.length_take, List.length_take];omega, _, hown⟩)
    exact CN.mk (c3.put d (a := .val _) rfl) hn⟩
theorem CA.ofX {y : Code} (q : Tmp) {v : Value} {T sz m : Nat} {L : List (List Value)} {rest : List Res} (ht : lookA e q = some (.ox v)) (tk : Take o (arrX v T sz L m) rest) (hl : L.length = m) (h : CA Γ k y ((q, .ow v) :: e) (arrR v T sz L valR :: rest)) : CA Γ k y e o := by
 refine ⟨fun env hh G Os cn => ?_⟩
 obtain ⟨O, Os', cn2⟩ := cn.take tk
 obtain ⟨⟨ho, hv, hLM, junk, hw⟩, hrest⟩ := cn2.hp.own
 subst hl
 have hlen := hw.len_vs
 have hfl := hv.flen
 have hj : junk = [] := List.eq_nil_of_length_eq_zero (by rw [List.length_append] at hlen;omega)
 subst hj
 rw [List.append_nil] at hw
 have c3 : Con Γ ⟨e, arrR v T sz L valR :: rest⟩ env hh G (O :: Os') := ⟨cn2.hp.perm ⟨⟨ho, L, hw, hv.rows hh G⟩, hrest⟩ (List.Perm.refl _), cn2.env, cn2.nf⟩
 exact h.h env hh G (O :: Os') (con_re (σ := ⟨e, arrR v T sz L valR :: rest⟩) c3 q (fun w hw' => by
  obtain ⟨w', g1, g2⟩ := cn.env q _ ht
  rw [hw'] at g1;cases g1;exact g2) ht)
/-! ### append of zeros, where a new row is needed -/
theorem run_append_grow_zeros {P : Program} {w : World} (t tn ty e : TypeId) (i : TypeInfo) (z : Value) (k kn : IntKind) (ht : P.underlying t = some (.slice e)) (htn : P.underlying tn = some (.int kn)) (hi : P.info? e = some i) (hz : i.zero = some z)
  (b : Addr) (sLen sCap : Nat) (olds : List Value) (hlo : olds.length = sLen * i.size) (holds : ∀ j v, olds[j]? = some v → w.cell? (b.add j) = some v) (n : Nat) (h0 : 0 < n) (hs : 0 < i.size)
  (hg : sCap < sLen + n) (h63 : ((sLen + n : Nat) : Int) ≤ 9223372036854775807) (h48 : n * i.bytes ≤ 281474976710656) (hfit : Builtin.nextslicecap (sLen + n) sCap * i.bytes ≤ 281474976710656) :
  (Builtin.append_ #[t, tn] ty #[.slice (some b) sLen sCap, .int k n]).run P w =
   .ok (.slice (some ⟨w.heap.size, 0, none⟩) (sLen + n) (grownCap w (sLen + n) sCap e))
    (w.drew.alloc (.cells (olds.toArray ++ Builtin.zeroCells z.cells n ++ Builtin.zeroCells z.cells (grownCap w (sLen + n) sCap e - (sLen + n))) e)) := by
 have hn : ¬ (sLen + n ≤ sCap) := by omega
 have hw : IntKind.i64.wrap (n : Int) = n := by rw [IntKind.wrap_i64];omega
 have h63' : ¬ (9223372036854775807 < ((sLen : Int) + (n : Int))) := by omega
 have h48' : ¬ (281474976710656 < Builtin.nextslicecap (sLen + n) sCap * i.bytes) := by omega
 have h48i : ¬ (281474976710656 < (n : Int) * (i.bytes : Int)) := by
  rw [← Int.natCast_mul];omega
 have hneg : ¬ ((n : Int) < 0) := by omega
 have hns : ¬ (n * i.size = 0) := Nat.mul_ne_zero (by omega) (by omega)
 have hfo := run_firstCells_some (P := P) w.drew i.size sLen b sLen sCap olds hlo (by simpa using holds)
 simp [Builtin.append_, run_underlying ht, run_underlying htn, sizeOf, typeInfo, zeroValue, hi, hz, asInt, asIntOf, hw, hn, hneg, hns, h63', h48', h48i, Question.forced, hfo, newRow, grownCap]
end
end Go.CF
namespace Go.CF
open Go
section
variable {Γ : Cx} {k : List KI} {e : EA} {o : List Res} {N : NA} {c : Cls} {d : Tmp} {ty : TypeId} {x y z : Operand} {t u : TypeId} {kk : IntKind} {i : Int}
structure Apz (Γ : Cx) (c : Cls) (d : Tmp) (t u : TypeId) (x y : Operand) (ty : TypeId) (e : EA) (o : List Res) (N : NA) (a b : AV) : Prop where
 h : evA e x = some a → evA e y = some b → isLoud c = true → SA Γ c (some d) (.call { callee := .builtin .append, args := #[x, y], argTypes := #[t, u] }) ty e o N
instance (priority := 900) : Sp (SA Γ c (some d) (.call { callee := .builtin .append, args := #[x, y], argTypes := #[t, u] }) ty e o N) (Rf (isLoud c = true) (Lk (evA e x) fun a => Lk (evA e y) fun b => Apz Γ c d t u x y ty e o N a b)) := ⟨fun ⟨hc, _, ha, _, hb, h⟩ => h.h ha hb hc⟩
instance {v : Value} {s m : Nat} : Sp (Apz Γ c d t u x y ty e o N (.os v s 0 m) (.val (.int .i64 i))) (Lk (slE Γ.tt t) fun p => Lk (Γ.tt u) fun ui => Rf (ui.kind = .int .i64) (Rf ((Nat.blt 0 p.2.size && Nat.ble p.2.bytes 1000) = true ∧ p.2.zero.cells.size = p.2.size) (TkA o v fun T sz l f _ => Rf (T = p.1 ∧ sz = p.2.size ∧ s = sz) (Mp l f valR fun L =>
  Jx i 100000000000 fun n => Om (0 < n ∧ capV v < m + n ∧ m ≤ l.length ∧ 0 < l.length ∧ m + n ≤ 100000000000) (All fun w : Value => N ((d, .ox w) :: e) (arrX w p.1 p.2.size (L.take m) (m + n) :: o)))))) := ⟨fun ⟨p, hp, ui, hui, huk, ⟨hs1, hs2⟩, α, T, sz, l, f, rest, tk, ⟨hT, hz, hs⟩, L, hL, n, hi, _, ⟨hn0, hcap, hml, hl0, hmn⟩, hn⟩ => ⟨fun ha hb hc => ⟨fun env hh G Os cn => by
 subst hs;subst hT;subst hz;subst hi
 obtain ⟨w, g1, p0, len, cap, rfl, hjm, rfl⟩ := cn.get ha
 obtain ⟨w2, g2, rfl⟩ := cn.get hb
 obtain ⟨ti, t1, t2, t3⟩ := slE_spec hp
 obtain ⟨O, Os', cn2⟩ := cn.take tk
 obtain ⟨⟨ho, rows, hw, hr⟩, hrest⟩ := cn2.hp.own
 have hr2 : Rows hh G p.2.size rows L valR := hr.map hL
 have hv := RowsV.of hr2
 have e9 := rows_val hr2
 subst e9
 have hLl : rows.length = l.length := hr.len
 simp only [Bool.and_eq_true, Nat.blt_eq] at hs1
 have hb1000 := Nat.le_of_ble_eq_true hs1.2
 have hlen := hw.len_vs
 have hfl := hv.flen
 rcases hw.ok with ⟨e1, e2⟩|⟨b, of, cap', l', e1, hbk, h1, h2, h3⟩
 ·omega
 ·cases e1
  have hsub : subA (some ⟨b, of, none⟩) p.2.size 0 cap = some ⟨b, of, none⟩ := subA_zero (fun a h => by cases h;rfl)
  rw [hsub] at g1
  have hcap : cap < m + n := hcap
  refine .ofLd hc fun a w oo next Q ha' hw' hop hty hnn => ?_
  obtain ⟨ie, dd, hie, hd, hi1, hi2, hi3, _⟩ := (Γ.ok.ok _ _ t3).ok
  have hu := (Γ.ok.ok _ _ t1).slice t2
  have hun := (Γ.ok.ok _ _ hui).int huk
  have hms : m * p.2.size ≤ l.length * p.2.size := Nat.mul_le_mul_right _ hml
  have hlc : l.length * p.2.size ≤ cap * p.2.size := Nat.mul_le_mul_right _ h2
  have holds : ∀ j v, (rows.take m).flatten[j]? = some v → w.cell? ((⟨b, of, none⟩ : Addr).add j) = some v := fun j v hv' => by
   rw [flat_take rows m hv.sz, ← h3, List.take_take, Nat.min_eq_left hms] at hv'
   exact ((hbk.cels of (m * p.2.size)).get j v hv').get w hw'
  have hof : (rows.take m).flatten.length = m * ie.size := by rw [flat_take rows m hv.sz, List.length_take, hfl, hi1, hLl];omega
  have hbytes : n * ie.bytes ≤ 281474976710656 := by
   rw [hi2]
   have : n * p.2.bytes ≤ 100000000000 * 1000 := Nat.mul_le_mul (by omega) hb1000
   omega
  have hfit : Builtin.nextslicecap (m + n) cap * ie.bytes ≤ 281474976710656 := growslice_fits (by omega) (by
   rw [hi2]
   have : (m + n) * p.2.bytes ≤ 100000000000 * 1000 := Nat.mul_le_mul (by omega) hb1000
   omega)
  have hrz := run_append_grow_zeros (P := Γ.P) (w := w) t u ty p.1 ie p.2.zero .i64 .i64 hu hun hie hi3 ⟨b, of, none⟩ m cap (rows.take m).flatten hof holds n hn0 (by rw [hi1];exact hs1.1) hcap (by omega) hbytes hfit
  have hge := grownCap_ge w (m + n) cap p.1
  generalize grownCap w (m + n) cap p.1 = cap2 at hrz hge
  have hrun : (execOp a.eval (mkOp (.call { callee := .builtin .append, args := #[x, y], argTypes := #[t, u] }) ty)).run Γ.P w = .ok (.value (.slice (some ⟨w.heap.size, 0, none⟩) (m + n) cap2)) (w.drew.alloc (.cells ((rows.take m).flatten.toArray ++ Builtin.zeroCells p.2.zero.cells n ++ Builtin.zeroCells p.2.zero.cells (cap2 - (m + n))) p.1)) := by
   simp [mkOp, execOp, resolve, invoke, builtin, ha'.ev g1, ha'.ev g2, hrz]
  unfold Oper.wp
  rw [exec_mk, hop, hty, hrun]
  have hheap : (w.drew.alloc (.cells ((rows.take m).flatten.toArray ++ Builtin.zeroCells p.2.zero.cells n ++ Builtin.zeroCells p.2.zero.cells (cap2 - (m + n))) p.1)).heap = hh.push (.cells ((rows.take m).flatten ++ (Builtin.zeroCells p.2.zero.cells n).toList ++ (Builtin.zeroCells p.2.zero.cells (cap2 - (m + n))).toList).toArray p.1 (0, 0)) := by
   simp only [World.alloc, World.drew, hw']
   congr 2
   apply Array.ext'
   simp
  have hnew : New hh hh.size p.1 ((rows.take m).flatten ++ (Builtin.zeroCells p.2.zero.cells n).toList ++ (Builtin.zeroCells p.2.zero.cells (cap2 - (m + n))).toList) (w.drew.alloc (.cells ((rows.take m).flatten.toArray ++ Builtin.zeroCells p.2.zero.cells n ++ Builtin.zeroCells p.2.zero.cells (cap2 - (m + n))) p.1)).heap := ⟨rfl, hheap⟩
  have hvt : RowsV p.2.size (rows.take m) := ⟨fun r hr => hv.sz r (List.mem_of_mem_take hr), fun r hr => hv.one r (List.mem_of_mem_take hr)⟩
  refine hnn _ _ (Same.of_push rfl) ?_
  have hzl : (Builtin.zeroCells p.2.zero.cells n).toList.length = n * p.2.size := by simp [size_zeroCells, hs2]
  have hzl2 : (Builtin.zeroCells p.2.zero.cells (cap2 - (m + n))).toList.length = (cap2 - (m + n)) * p.2.size := by simp [size_zeroCells, hs2]
  rw [hi1] at hof
  have hcs : (m + n) * p.2.size + (cap2 - (m + n)) * p.2.size = cap2 * p.2.size := by rw [← Nat.add_mul];congr 1;omega
  have hmns : (m + n) * p.2.size = m * p.2.size + n * p.2.size := Nat.add_mul _ _ _
  have c3 := cn.new (R := arrX (.slice (some ⟨hh.size, 0, none⟩) (m + n) cap2) p.1 p.2.size (rows.take m) (m + n)) (O := fun y => y = hh.size) hnew (fun y h => h)
   ⟨fun y => by simp [blkOf], hvt, by rw [List.length_take];omega, (Builtin.zeroCells p.2.zero.cells n).toList, by rw [List.length_append, hof, hzl, hmns], .inr ⟨hh.size, 0, cap2, _, rfl, hnew.blk, by simp only [List.length_append, hof, hzl, hzl2];omega, by omega, by rw [List.drop_zero, List.take_left' (by rw [List.length_append, hof, hzl, hmns])]⟩⟩
  rw [hw']
  exact CN.mk (c3.put d (a := .ox _) ⟨rfl, _, _, _, rfl⟩) (hn.ok _)⟩⟩⟩
end
end Go.CF
namespace Go.CF
open Go
theorem run_overlaps_none {P : Program} (w : World) (tS tR e : TypeId) (ht : P.underlying tS = some (.slice e)) (size : Nat) (hz : ∀ w, (Go.sizeOf e).run P w = .ok size w) (p q : Option Addr) (la ca lb cb : Nat) (h : p = none ∨ q = none ∨ la = 0 ∨ lb = 0) :
  (Extern.SlicesOverlaps.overlaps #[tS, tS] #[tR] #[.slice p la ca, .slice q lb cb]).run P w = .ok (.bool false) w := by
 change Sem.run P (α := Value) (do
  let some t := (#[tS, tS] : Array TypeId)[0]?|stuck "slices.overlaps: no parameter types"
  let .slice elem ← underlying t|stuck "slices.overlaps: slice type expected"
  let size ← sizeOf elem
  match p, q with
  | some a, some b =>
   if la = 0 ∨ lb = 0 ∨ size = 0 then pure (Value.bool false)
   else if a.block != b.block && (← frozen a) && (← frozen b) then unsupported .addressObserved
   else do
    if a.block != b.block then do
     noView a;noView b
     if ← mayBeOne a b then return Value.bool ((← choose (.extern "sameAddr.stringBytes" 2)) == 1)
    pure (Value.bool (a.block == b.block && a.off < b.off + lb * size && b.off < a.off + la * size))
  | _, _ => pure (Value.bool false)) w = _
 cases p with
 | none => simp [run_underlying ht, hz]
 | some a =>
  cases q with
  | none => simp [run_underlying ht, hz]
  | some b =>
   have h0 : la = 0 ∨ lb = 0 ∨ size = 0 := by rcases h with h|h|h|h <;> simp_all
   simp [run_underlying ht, hz, h0]
structure OvF (P : Program) (f : FuncId) (tS : TypeId) : Prop where
 ok : ∃ fn tR, P.funcs[f]? = some fn ∧ (fn.name == "runtime.NumGoroutine") = false ∧ fn.body.isNone = true ∧ Extern.findNext fn = none ∧ Extern.find fn = some (Extern.SlicesOverlaps.overlaps #[tS, tS] #[tR])
section
variable {Γ : Cx} {k : List KI} {e : EA} {o : List Res} {N : NA} {c : Cls} {d : Tmp} {ty : TypeId} {x y z : Operand} {t u : TypeId} {kk : IntKind} {i : Int}
structure Ovl (o : List Res) (a b : AV) (k : Prop) : Prop where
 ok : ∃ (u v : Value) (s j m : Nat) (α : Type) (T sz : Nat) (l : List α) (f : α → List AV) (rest : List Res) (T' sz' : Nat) (L : List (List Value)) (m' : Nat) (rest' : List Res), a = .ow u ∧ b = .os v s j m ∧ Take o (arrR u T sz l f) rest ∧ Take rest (arrX v T' sz' L m') rest' ∧ 0 < sz' ∧ k
theorem Ovl.mk' {u v : Value} {s j m : Nat} {α : Type} {T sz : Nat} {l : List α} {f : α → List AV} {rest : List Res} {T' sz' : Nat} {L : List (List Value)} {m' : Nat} {rest' : List Res} {k : Prop} (h1 : Take o (arrR u T sz l f) rest) (h2 : Take rest (arrX v T' sz' L m') rest') (h3 : 0 < sz') (hk : k) : Ovl o (.ow u) (.os v s j m) k :=
 ⟨u, v, s, j, m, α, T, sz, l, f, rest, T', sz', L, m', rest', rfl, rfl, h1, h2, h3, hk⟩
theorem SA.ovl {f : FuncId} {tS : TypeId} (hf : OvF Γ.P f tS) {p : Nat × TI} (hp : slE Γ.tt tS = some p) {tys : Array TypeId} (hc : isLoud c = true) (h : Lk (evA e x) fun a => Lk (evA e y) fun b => Ovl o a b (N ((d, .val (.bool false)) :: e) o)) :
  SA Γ c (some d) (.call { callee := .value (.func f), args := #[x, y], argTypes := tys }) ty e o N := by
 obtain ⟨a, ha, b, hb, u, v, s, j, m, α, T, sz, l, g, rest, T', sz', L, m', rest', rfl, rfl, tk1, tk2, hsp, hn⟩ := h
 refine ⟨fun env hh G Os cn => ?_⟩
 obtain ⟨w1, g1, hw1, q1, l1, c1, hq1⟩ := cn.get ha
 obtain ⟨w2, g2, q2, l2, c2, rfl, hjm, rfl⟩ := cn.get hb
 subst hw1
 subst hq1
 obtain ⟨ti, t1, t2, t3⟩ := slE_spec hp
 obtain ⟨O, Os', cn2⟩ := cn.take tk1
 obtain ⟨⟨ho, rows, hw, hr⟩, hrest⟩ := cn2.hp.own
 obtain ⟨O', Os2, cn3⟩ := (show Con Γ ⟨e, rest⟩ env hh G Os' from ⟨cn2.hp.drop, cn2.env, cn2.nf⟩).take tk2
 obtain ⟨⟨ho', hv', hL', junk, hw'⟩, _⟩ := cn3.hp.own
 obtain ⟨fn, tR, hf1, hf2, hf3, hf4, hf5⟩ := hf.ok
 have hu := (Γ.ok.ok _ _ t1).slice t2
 have hzz := (Γ.ok.ok _ _ t3).run_size
 have key : ∀ w : World, w.heap = hh → (Extern.SlicesOverlaps.overlaps #[tS, tS] #[tR] #[.slice q1 l1 c1, .slice (subA q2 s j c2) m (c2 - j)]).run Γ.P w = .ok (.bool false) w := by
  intro w hwh
  rcases hw.ok with ⟨e1, e2⟩|⟨b1, of1, cap1, L1, e1, hb1, _, _, _⟩
  ·cases e1
   exact run_overlaps_none w tS tR p.1 hu p.2.size hzz _ _ _ _ _ _ (.inl rfl)
  ·cases e1
   rcases hw'.ok with ⟨e1, e2⟩|⟨b2, of2, cap2, L2, e1, hb2, k1, k2, _⟩
   ·cases e1
    refine run_overlaps_none w tS tR p.1 hu p.2.size hzz _ _ _ _ _ _ (.inr (.inl ?_))
    unfold subA;split <;> rfl
   ·cases e1
    by_cases h0 : l.length = 0 ∨ m = 0
    ·exact run_overlaps_none w tS tR p.1 hu p.2.size hzz _ _ _ _ _ _ (.inr (.inr h0))
    ·have hjc : j < m' := by omega
     have hsub : ∃ a, subA (some ⟨b2, of2, none⟩) s j c2 = some a ∧ a.block = b2 := by
      unfold subA
      split
      ·exact ⟨_, rfl, rfl⟩
      ·exact ⟨_, rfl, by simp [addr_add]⟩
     obtain ⟨a2, ha2, hab⟩ := hsub
     rw [ha2]
     have hB1 : w.heap[b1]? = some (.cells L1.toArray T (0, 0)) := hb1.heap hwh
     have hB2 : w.heap[b2]? = some (.cells L2.toArray T' (0, 0)) := hb2.heap hwh
     have hne : b1 ≠ b2 := fun h => by
      have h1 : O b1 := (ho b1).2 (by simp [blkOf])
      have h2 : O' b2 := (ho' b2).2 (by simp [blkOf])
      have hd := List.pairwise_cons.1 cn2.hp.d
      obtain ⟨O2, os2, r1, r2, r3⟩ := tk2.own cn2.hp.drop.own
      have h3 : O2 b2 := (r1.1 b2).2 (by simp [blkOf])
      exact hd.1 O2 (r3.mem_iff.2 (by simp)) b1 h1 (h ▸ h3)
     by_cases hk0 : L2.length = 0
     ·have h5 := Nat.mul_le_mul_right sz' k2
      have h6 : 0 < m' * sz' := Nat.mul_pos (by omega) hsp
      omega
     ·exact Go.Lib.run_overlaps_apart w tS tR p.1 hu p.2.size hzz ⟨b1, of1, none⟩ a2 l.length c1 m (c2 - j) (by rw [hab];exact hne) T T' L1.length L2.length (by simp [World.shape?, hB1]) (by rw [hab];simp [World.shape?, hB2]) hk0 (by simp [World.frozen?, hB1]) (by simp [World.frozen?, hB1])
 refine St.ofLd hc fun a w oo next Q ha' hwh hop hty hnn => ?_
 have hrun : (execOp a.eval (mkOp (.call { callee := .value (.func f), args := #[x, y], argTypes := tys }) ty)).run Γ.P w = .ok (.value (.bool false)) w := by
  have h1 := run_callFunc_extern hf1 hf2 hf3 hf4 hf5 #[.slice q1 l1 c1, .slice (subA q2 s j c2) m (c2 - j)] w
  rw [key w hwh] at h1
  simp [mkOp, execOp, resolve, invoke, Deferred.ofValue, ha'.ev g1, ha'.ev g2, ha'.ev (x := .func f) (v := .func (.func f) #[] #[]) rfl, h1]
 unfold Oper.wp
 rw [exec_mk, hop, hty, hrun]
 exact hnn _ w (Same.refl w) (hwh ▸ CN.mk (cn.put d (a := .val _) rfl) hn)
structure Cvk (q : TK) (i : Int) (M : IntKind → Int → Prop) : Prop where
 ok : ∃ k' r, q = .int k' ∧ k'.wrap i = r ∧ M k' r
theorem Cvk.i64 {q : TK} {i : Int} {M : IntKind → Int → Prop} (hq : q = .int .i64) (h : -9223372036854775808 ≤ i ∧ i ≤ 9223372036854775807) (hm : M .i64 i) : Cvk q i M := ⟨.i64, i, hq, wrap_i64 h, hm⟩
theorem Cvk.u64 {q : TK} {i : Int} {M : IntKind → Int → Prop} (hq : q = .int .u64) (h : 0 ≤ i ∧ i ≤ 18446744073709551615) (hm : M .u64 i) : Cvk q i M := ⟨.u64, i, hq, by
 simp [IntKind.wrap, IntKind.signed, IntKind.bits];omega, hm⟩
instance (priority := 1100) {w : TypeId} : Sp (Ap1 Γ c d (.convert t w x) ty e o N x (.val (.int kk i))) (Lk (Γ.tt t) fun _ => Lk (Γ.tt w) fun ti => Cvk ti.kind i fun k' r => N ((d, .val (.int k' r)) :: e) o) := ⟨fun ⟨_, h1, _, h2, _, _, hq, hr, hn⟩ => puv1 (fun _ _ => rfl) hn fun _ _ _ h k => St.convert Γ.ok h1 h2 hq h hr k⟩
instance {k2 : IntKind} : Sp (Ap2 Γ c d (.binOp .shr t x y u) ty e o N x (.val (.int .u64 i)) y (.val (.int k2 1))) (N ((d, .val (.int .u64 (i / 2))) :: e) o) := ⟨fun hn => puv2 hn fun _ _ _ h h' k => St.shrN h h' (m := 1) rfl (by decide) (by rw [show (2 : Int) ^ 1 = 2 from rfl];exact k)⟩
end
end Go.CF
namespace Go.CF
open Go
def bunR (rs : List Res) : Res :=
  ⟨fun h O G => ∃ Os, OwnL h G rs Os ∧ Apart Os ∧ ∀ b, O b ↔ U Os b,
   fun {_ _ _ _} x ⟨Os, h1, h2, h3⟩ => ⟨Os, OwnL.stp (fun O' hO' => x.mono fun b hb => hb.imp (fun h => (h3 b).2 ⟨O', hO', h⟩) id) h1, h2, h3⟩,
   fun x ⟨Os, h1, h2, h3⟩ => ⟨Os, h1.mono x, h2, h3⟩,
   fun ⟨Os, h1, _, h3⟩ b hb => let ⟨O, hO, h4⟩ := (h3 b).1 hb;h1.nc O hO b h4⟩
section
variable {h0 : Heap} {G0 O0 : Nat → Prop} {h : Heap} {G : Nat → Prop} {Os : List (Nat → Prop)} {rs rest : List Res} {O : Nat → Prop}
theorem HpOK.unbun (c : HpOK h0 G0 O0 (bunR rs :: rest) h G (O :: Os)) : ∃ Os', OwnL h G rs Os' ∧ HpOK h0 G0 O0 (rs ++ rest) h G (Os' ++ Os) := by
 obtain ⟨⟨Os', h1, h2, h3⟩, hrest⟩ := c.own
 have hd := List.pairwise_cons.1 c.d
 refine ⟨Os', h1, h1.app hrest, c.g, c.g0, fun X hX b hb => ?_, List.pairwise_append.2 ⟨h2, hd.2, fun A hA B hB b ha hb => hd.1 B hB b ((h3 b).2 ⟨A, hA, ha⟩) hb⟩, c.fp⟩
 rcases List.mem_append.1 hX with hX|hX
 ·exact c.o O (by simp) b ((h3 b).2 ⟨X, hX, hb⟩)
 ·exact c.o X (by simp [hX]) b hb
theorem HpOK.bun {Os1 Os2 : List (Nat → Prop)} (c : HpOK h0 G0 O0 (rs ++ rest) h G (Os1 ++ Os2)) (h1 : OwnL h G rs Os1) (h2 : OwnL h G rest Os2) : HpOK h0 G0 O0 (bunR rs :: rest) h G (U Os1 :: Os2) := by
 obtain ⟨d1, d2, d3⟩ := List.pairwise_append.1 c.d
 refine ⟨⟨⟨Os1, h1, d1, fun b => Iff.rfl⟩, h2⟩, c.g, c.g0, fun X hX b hb => ?_, List.pairwise_cons.2 ⟨fun B hB b ⟨A, hA, ha⟩ hb => d3 A hA B hB b ha hb, d2⟩, c.fp⟩
 rcases List.mem_cons.1 hX with rfl|hX
 ·obtain ⟨A, hA, ha⟩ := hb
  exact c.o A (by simp [hA]) b ha
 ·exact c.o X (by simp [hX]) b hb
end
section
variable {Γ : Cx} {k : List KI} {e : EA} {o : List Res} {α : Type} {l : List α} {g : α → Res}
theorem CA.bunTake {y : Code} {i : Nat} {x : α} {rest : List Res} (tk : Take o (bunR (l.map g)) rest) (hx : l[i]? = some x) (h : CA Γ k y e (g x :: bunR ((l.eraseIdx i).map g) :: rest)) : CA Γ k y e o := by
 refine ⟨fun env hh G Os cn => ?_⟩
 obtain ⟨O, Os', cn2⟩ := cn.take tk
 obtain ⟨Os1, g1, g2⟩ := cn2.hp.unbun
 have hil := (List.getElem?_eq_some_iff.1 hx).1
 have hsp : l = l.take i ++ x :: l.drop (i + 1) := by
  have h9 := List.drop_eq_getElem_cons hil
  rw [(List.getElem?_eq_some_iff.1 hx).2] at h9
  rw [← h9, List.take_append_drop]
 have hrest := cn2.hp.own.2
 rw [hsp, List.map_append, List.map_cons] at g1
 obtain ⟨A, B, rfl, a1, a2⟩ := OwnL.split g1
 match B, a2 with
 | X :: B, ⟨b1, b2⟩ =>
  have hp : (A ++ X :: B ++ Os').Perm (X :: ((A ++ B) ++ Os')) := by
   rw [List.append_assoc, List.cons_append]
   exact List.perm_middle.trans (by rw [List.append_assoc])
  have herase : (l.eraseIdx i).map g = (l.take i).map g ++ (l.drop (i + 1)).map g := by rw [List.eraseIdx_eq_take_drop_succ, List.map_append]
  have c3 : HpOK Γ.h0 Γ.G0 Γ.O0 (g x :: ((l.eraseIdx i).map g ++ rest)) hh G (X :: ((A ++ B) ++ Os')) :=
   g2.perm ⟨b1, by rw [herase];exact (a1.app b2).app hrest⟩ hp
  have c4 : HpOK Γ.h0 Γ.G0 Γ.O0 (((l.eraseIdx i).map g) ++ (g x :: rest)) hh G ((A ++ B) ++ (X :: Os')) :=
   c3.perm (by rw [herase];exact (a1.app b2).app ⟨b1, hrest⟩) List.perm_middle.symm
  have c5 := c4.bun (by rw [herase];exact a1.app b2) ⟨b1, hrest⟩
  have c6 : HpOK Γ.h0 Γ.G0 Γ.O0 (g x :: bunR ((l.eraseIdx i).map g) :: rest) hh G (X :: U (A ++ B) :: Os') :=
   c5.perm ⟨b1, c5.own.1, hrest⟩ (List.Perm.swap _ _ _)
  exact h.h env hh G _ ⟨c6, cn.env, cn.nf⟩
theorem CA.bunPush {y : Code} {x : α} {rest1 rest2 : List Res} (tk1 : Take o (bunR (l.map g)) rest1) (tk2 : Take rest1 (g x) rest2) (h : CA Γ k y e (bunR ((l ++ [x]).map g) :: rest2)) : CA Γ k y e o := by
 refine ⟨fun env hh G Os cn => ?_⟩
 obtain ⟨O, Os', cn2⟩ := cn.take tk1
 obtain ⟨X, Os2, r1, r2, r3⟩ := tk2.own cn2.hp.own.2
 have c2 : HpOK Γ.h0 Γ.G0 Γ.O0 (bunR (l.map g) :: g x :: rest2) hh G (O :: X :: Os2) := cn2.hp.perm ⟨cn2.hp.own.1, r1, r2⟩ (List.Perm.cons O r3)
 obtain ⟨A, g1, g2⟩ := c2.unbun
 have c3 : HpOK Γ.h0 Γ.G0 Γ.O0 ((l.map g ++ [g x]) ++ rest2) hh G ((A ++ [X]) ++ Os2) := by
  rw [List.append_assoc, List.append_assoc];exact g2
 have c4 := c3.bun (g1.app (r1 := l.map g) (r2 := [g x]) ⟨r1, trivial⟩) r2
 rw [show l.map g ++ [g x] = (l ++ [x]).map g by simp] at c4
 exact h.h env hh G _ ⟨c4, cn.env, cn.nf⟩
theorem CA.bunPut {y : Code} {i : Nat} {x : α} {rest1 rest2 : List Res} (tk1 : Take o (bunR ((l.eraseIdx i).map g)) rest1) (tk2 : Take rest1 (g x) rest2) (hi : i < l.length) (h : CA Γ k y e (bunR ((l.set i x).map g) :: rest2)) : CA Γ k y e o := by
 refine ⟨fun env hh G Os cn => ?_⟩
 obtain ⟨O, Os', cn2⟩ := cn.take tk1
 obtain ⟨X, Os2, r1, r2, r3⟩ := tk2.own cn2.hp.own.2
 have c2 : HpOK Γ.h0 Γ.G0 Γ.O0 (bunR ((l.eraseIdx i).map g) :: g x :: rest2) hh G (O :: X :: Os2) := cn2.hp.perm ⟨cn2.hp.own.1, r1, r2⟩ (List.Perm.cons O r3)
 obtain ⟨A, g1, g2⟩ := c2.unbun
 have herase : (l.eraseIdx i).map g = (l.take i).map g ++ (l.drop (i + 1)).map g := by rw [List.eraseIdx_eq_take_drop_succ, List.map_append]
 have hset : (l.set i x).map g = (l.take i).map g ++ g x :: (l.drop (i + 1)).map g := by
  rw [List.set_eq_take_append_cons_drop, if_pos hi, List.map_append, List.map_cons]
 rw [herase] at g1 g2
 obtain ⟨B, C, rfl, b1, b2⟩ := OwnL.split g1
 have hp : (B ++ C ++ X :: Os2).Perm ((B ++ X :: C) ++ Os2) := by
  rw [List.append_assoc, List.append_assoc, List.cons_append]
  exact List.Perm.append_left B List.perm_middle
 have c3 : HpOK Γ.h0 Γ.G0 Γ.O0 ((l.set i x).map g ++ rest2) hh G ((B ++ X :: C) ++ Os2) := g2.perm (by rw [hset];exact OwnL.app (OwnL.app b1 (show OwnL hh G (g x :: (l.drop (i + 1)).map g) (X :: C) from ⟨r1, b2⟩)) r2) hp
 have c4 := c3.bun (by rw [hset];exact OwnL.app b1 (show OwnL hh G (g x :: (l.drop (i + 1)).map g) (X :: C) from ⟨r1, b2⟩)) r2
 exact h.h env hh G _ ⟨c4, cn.env, cn.nf⟩
theorem CA.bunNil {y : Code} (g : α → Res) (h : CA Γ k y e (bunR (([] : List α).map g) :: o)) : CA Γ k y e o := by
 refine ⟨fun env hh G Os cn => ?_⟩
 have c4 : HpOK Γ.h0 Γ.G0 Γ.O0 (bunR (([] : List α).map g) :: o) hh G (U [] :: Os) := HpOK.bun (rs := []) (Os1 := []) cn.hp trivial cn.hp.own
 exact h.h env hh G _ ⟨c4, cn.env, cn.nf⟩
end
end Go.CF
namespace Go.CF
open Go

structure Sm (w w' : World) : Prop where
 os : w'.os = w.os
 tape : w'.tape = w.tape
 output : w'.output = w.output
 drawn : w.drawn ≤ w'.drawn
 size : w.heap.size ≤ w'.heap.size
theorem Sm.refl (w : World) : Sm w w := ⟨rfl, rfl, rfl, Nat.le_refl _, Nat.le_refl _⟩
theorem Sm.trans {a b c : World} (h : Sm a b) (k : Sm b c) : Sm a c := ⟨k.os.trans h.os, k.tape.trans h.tape, k.output.trans h.output, Nat.le_trans h.drawn k.drawn, Nat.le_trans h.size k.size⟩
theorem Same.sm {w w' : World} (h : Same w w') : Sm w w' := ⟨h.os, h.tape, h.output, h.drawn, h.size⟩
theorem Sm.put (w : World) (l : Nat) (o : Obj) : Sm w (w.putObj l o) := ⟨rfl, rfl, rfl, Nat.le_refl _, by simp⟩

structure IterH (P : Program) (gf : FuncId) (lb : List Value) (xs : List (List Value)) (C : Heap → Prop) : Prop where
 run : ∀ (l : Nat) (J Jx : Nat → Heap → Prop) (w : World), (∀ i h, J i h → C h) →
  (∀ i x w1, xs[i]? = some x → J i w1.heap → Sm w w1 → YieldAt Fence.wide 0 P l x.toArray w1 fun e w' => Sm w1 w' ∧ ((e = .returned (.bool true) ∧ J (i + 1) w'.heap) ∨ (e = .returned (.bool false) ∧ Jx (i + 1) w'.heap))) →
  J 0 w.heap → Calls P gf ((.func (.yield l) #[] #[]) :: lb).toArray w fun e w' => (∃ v, e = .returned v) ∧ Sm w w' ∧ (J xs.length w'.heap ∨ ∃ i, i ≤ xs.length ∧ Jx i w'.heap)

def parE : List Tmp → List Value → Env → Env
 | p :: ps, v :: vs, e => parE ps vs ((p, v) :: e)
 | _, _, e => e
theorem Agree.par {n : Nat} {ds : List Deferred} : ∀ (ps : List Tmp) (vs : List Value) (e : Env) (t : Array Value), (∀ p ∈ ps, p < n) → Agree n e { tmps := t, defers := ds } →
  Agree n (parE ps vs e) { tmps := (ps.zip vs).foldl (fun t p => t.setIfInBounds p.1 p.2) t, defers := ds }
 | [], _, _, _, _, h => by simpa [parE] using h
 | _ :: _, [], _, _, _, h => by simpa [parE] using h
 | p :: ps, v :: vs, e, t, hp, h => by
  simp only [parE, List.zip_cons_cons, List.foldl_cons]
  refine Agree.par ps vs _ _ (fun q hq => hp q (by simp [hq])) ?_
  exact h.put (d := some p) (by simpa [dOK] using hp p (by simp)) v

theorem run_enter {P : Program} {rd : Option Nat} {B : Nat} {ds : List Deferred} {w : World} (hr : Rnd rd w.heap) (hf : Fr B ds w.heap) (fn : FuncId) (tmps : Array Value) (ps : Array Tmp) (assign body : Code) :
  ∃ l mark W1 D, (Instr.enterLoop fn tmps ps assign body rd).run P w = .ok (l, mark) W1 ∧ w.heap.size ≤ l ∧ W1.heap[l]? = some (.loop { state := .ready, pending := none, fn := fn, tmps := tmps, params := ps, assign := assign, body := body, defers := D }) ∧
   Same w W1 ∧ (∀ k, k < w.heap.size → W1.heap[k]? = w.heap[k]?) ∧ Fr B (mark ++ ds) W1.heap := by
 cases rd with
 | none =>
  have hs : Same w ((w.alloc (.deferred (some []))).alloc (.loop { state := .ready, pending := none, fn, tmps, params := ps, assign, body, defers := w.heap.size })) := (Same.of_push (w' := w.alloc (.deferred (some []))) rfl).trans (Same.of_push rfl)
  have hold : ∀ k, k < w.heap.size → ((w.heap.push (.deferred (some []))).push (.loop { state := .ready, pending := none, fn, tmps, params := ps, assign, body, defers := w.heap.size }))[k]? = w.heap[k]? := fun k hk => by
   rw [Array.getElem?_push, if_neg (by simp;omega), Array.getElem?_push, if_neg (by omega)]
  have hd : ((w.heap.push (.deferred (some []))).push (.loop { state := .ready, pending := none, fn, tmps, params := ps, assign, body, defers := w.heap.size }))[w.heap.size]? = some (.deferred (some [])) := by
   rw [Array.getElem?_push, if_neg (by simp), Array.getElem?_push, if_pos rfl]
  refine ⟨_, _, _, w.heap.size, run_enterLoop_outer fn tmps ps assign body, by omega, ?_, hs, hold, ⟨Nat.le_trans hf.le hs.size, ?_, fun d hm => ?_⟩⟩
  ·show ((w.heap.push _).push _)[w.heap.size + 1]? = _
   rw [Array.getElem?_push, if_pos (by simp)]
  ·refine List.nodup_cons.2 ⟨fun hm => ?_, hf.nd⟩
   obtain ⟨D, h1, _, h3⟩ := hf.mks _ hm
   have hD := (Array.getElem?_eq_some_iff.1 h3).1
   simp only [Deferred.mk.injEq, Target.collected.injEq] at h1
   omega
  ·rcases List.mem_cons.1 hm with rfl|hm
   ·exact ⟨_, rfl, hf.le, hd⟩
   ·obtain ⟨D, h1, h2, h3⟩ := hf.mks _ hm
    exact ⟨D, h1, h2, (hold D (Array.getElem?_eq_some_iff.1 h3).1).trans h3⟩
 | some l0 =>
  obtain ⟨r, hr⟩ := hr l0 rfl
  have hs : Same w (w.alloc (.loop { state := .ready, pending := none, fn, tmps, params := ps, assign, body, defers := r.defers })) := Same.of_push rfl
  refine ⟨w.heap.size, [], w.alloc (.loop { state := .ready, pending := none, fn, tmps, params := ps, assign, body, defers := r.defers }), r.defers, ?_, Nat.le_refl _, World.alloc_heap_new w _, hs, fun k hk => ?_, ⟨Nat.le_trans hf.le hs.size, hf.nd, fun d hm => ?_⟩⟩
  ·unfold Instr.enterLoop
   simp only [Sem.run_bind, run_getLoop hr, run_newObj_alloc, Result.andThen, Sem.run_pure]
  ·show (w.heap.push _)[k]? = _
   rw [Array.getElem?_push, if_neg (by omega)]
  ·obtain ⟨D, h1, h2, h3⟩ := hf.mks _ hm
   exact ⟨D, h1, h2, hs.ctl D _ h3 rfl⟩

section
variable {P : Program} {n : Nat} {R : Env → Heap → Prop} {k : List KI} {env : Env} {h : Heap}

def roundQ (I : Heap → Prop) (E : Exit → Heap → Prop) : Exit → Env → Heap → Prop
 | .normal, _, h => I h
 | x, _, h => E x h
def jumpQ (E : Exit → Heap → Prop) : Code → Heap → Prop
 | .ret, h => E .ret h
 | .exit i, h => E (.exit i) h
 | .goto i, h => E (.goto i) h
 | _, _ => False

theorem Shut.put {B l : Nat} {w : World} {o o' : Obj} (hl : w.heap[l]? = some o) (ho : isCtl o = true) (hb : B ≤ l) : Shut B w.heap (w.putObj l o').heap :=
 ⟨by simp, fun k _ => by
  by_cases hk : k = l
  ·subst hk;exact .inr ⟨hb, o, hl, ho⟩
  ·exact .inl (World.putObj_heap_other hk)⟩

theorem CW.rangeFunc {g : Operand} {ps : Array Tmp} {asg body : Code} {gf : FuncId} {lb : List Value} {xs : List (List Value)} {C : Heap → Prop} (hg : ev env g = some (.func (.func gf) #[] lb.toArray)) (he : ∀ args w, (callFunc gf args).run P w = .ok (.enter gf args) w)
    (hit : IterH P gf lb xs C) (hps : ∀ x ∈ xs, x.length = ps.size) (hpn : ∀ p ∈ ps.toList, p < n) (I : Nat → Heap → Prop) (E : Exit → Heap → Prop)
    (hI : ∀ i h1 h2, Shut h.size h1 h2 → I i h1 → I i h2) (hE : ∀ x h1 h2, Shut h.size h1 h2 → E x h1 → E x h2) (hC : ∀ i h', I i h' → C h') (h0 : I 0 h)
    (hbody : ∀ i x h', xs[i]? = some x → I i h' → CW P n asg (fun e env1 h1 => e = .normal ∧ ∀ h2, Shut h.size h1 h2 → CW P n body (roundQ (I (i + 1)) E) env1 h2) (parE ps.toList x env) h')
    (hdone : ∀ h', I xs.length h' → PK P n R k .normal env h') (hret : ∀ h', E .ret h' → PK P n R k .ret env h') (hex : ∀ i h', E (.exit i) h' → PK P n R k (.exit i) env h') (hgo : ∀ i h', ¬ E (.goto i) h') :
    CW P n (.rangeFunc g ps asg body) (PK P n R k) env h := by
  refine ⟨fun rd m B a w ha hf hr hw => wpIn_rangeFunc fun fn hfn => ?_⟩
  subst hw
  obtain ⟨l, mark, W1, D, hent, hl, hL1, hs1, hold, hf1⟩ := run_enter (P := P) hr hf fn a.tmps ps asg body
  have hsh1 : Shut w.heap.size w.heap W1.heap := ⟨hs1.size, fun k hk => .inl (hold k hk)⟩
  refine ⟨l, mark, W1, { target := .fn (.func gf) lb.toArray, args := #[.func (.yield l) #[] #[]] }, W1, gf, ((.func (.yield l) #[] #[]) :: lb).toArray, W1, hent, ?_, fun _ _ => trivial, ?_, fun h => (by cases h), ?_⟩
  · simp only [resolve, ha.ev hg]
    simp [go_sem]
  · simp [invoke, go_sem, he]
  · -- what stands through the rounds: the loop's record, and all else that loops keep
    let rec_ : LoopState → Option Code → Loop := fun st pe => { state := st, pending := pe, fn := fn, tmps := a.tmps, params := ps, assign := asg, body := body, defers := D }
    let Kp : Heap → Prop := fun h' => W1.heap.size ≤ h'.size ∧ ∀ q o, q ≠ l → W1.heap[q]? = some o → isCtl o = true → h'[q]? = some o
    have hKput : ∀ (W : World) (o : Obj), Kp W.heap → Kp (W.putObj l o).heap := fun W o hk => ⟨by simpa using hk.1, fun q o' hq h1 h2 => (World.putObj_heap_other hq).trans (hk.2 q o' hq h1 h2)⟩
    have hKsame : ∀ W W' : World, Same W W' → Kp W.heap → Kp W'.heap := fun W W' hs hk => ⟨Nat.le_trans hk.1 hs.size, fun q o hq h1 h2 => hs.ctl q o (hk.2 q o hq h1 h2) h2⟩
    have hfin : ∀ (W : World), Sm W1 W → Kp W.heap → Same w W ∧ Fr B (mark ++ a.defers) W.heap := fun W hs hk =>
      ⟨⟨hs.os.trans hs1.os, hs.tape.trans hs1.tape, hs.output.trans hs1.output, Nat.le_trans hs1.drawn hs.drawn, Nat.le_trans hs1.size hk.1, fun q o h1 h2 => hk.2 q o (by have := (Array.getElem?_eq_some_iff.1 h1).1;omega) (hs1.ctl q o h1 h2) h2⟩,
       ⟨Nat.le_trans hf1.le hk.1, hf1.nd, fun d hd => by
          obtain ⟨D', h1, h2, h3⟩ := hf1.mks d hd
          exact ⟨D', h1, h2, hk.2 D' _ (fun e => by subst e;rw [hL1] at h3;cases h3) h3 rfl⟩⟩⟩
    have hag : Agree n env { a with defers := mark ++ a.defers } := ⟨ha.size, ha.val⟩
    have hcall := hit.run l (fun i h' => h'[l]? = some (.loop (rec_ .ready none)) ∧ Kp h' ∧ I i h') (fun _ h' => ∃ c, h'[l]? = some (.loop (rec_ .done (some c))) ∧ Kp h' ∧ jumpQ E c h') W1 (fun i h' hj => hC i h' hj.2.2) ?_
      ⟨hL1, ⟨Nat.le_refl _, fun _ _ _ h _ => h⟩, hI 0 _ _ hsh1 h0⟩
    · have h2 : CallsIn (wide rd) (m - 1) P gf ((.func (.yield l) #[] #[]) :: lb).toArray W1 _ := (callsIn_wide (n := m - 1)).2 (hcall.mono (R' := rangePost (wide rd) m P l (lift n B w (PK P n R k)) { a with defers := mark ++ a.defers }) ?_)
      · exact h2
      rintro e W2 ⟨⟨v, rfl⟩, hs2, (⟨hl2, hk2, hi2⟩|⟨i, hi, c, hl2, hk2, hi2⟩)⟩
      · have hsh : Shut w.heap.size W2.heap (W2.putObj l (.loop { rec_ .ready none with state := .exhausted })).heap := Shut.put hl2 rfl hl
        obtain ⟨g1, g2⟩ := hfin _ (hs2.trans (Sm.put W2 l (.loop { rec_ .ready none with state := .exhausted }))) (hKput W2 _ hk2)
        exact ⟨none, _, run_endLoop (P := P) hl2 (by simp [rec_]), g1, g2, env, hag, hdone _ (hI _ _ _ hsh hi2)⟩
      · have hsh : Shut w.heap.size W2.heap (W2.putObj l (.loop { rec_ .done (some c) with state := .exhausted })).heap := Shut.put hl2 rfl hl
        obtain ⟨g1, g2⟩ := hfin _ (hs2.trans (Sm.put W2 l (.loop { rec_ .done (some c) with state := .exhausted }))) (hKput W2 _ hk2)
        refine ⟨some c, _, run_endLoop (P := P) hl2 (by simp [rec_]), ?_⟩
        show c.wpIn (wide rd) m P _ _ _
        cases c <;> simp only [jumpQ] at hi2
        case ret => exact wpIn_ret ⟨g1, g2, env, hag, hret _ (hE _ _ _ hsh hi2)⟩
        case exit i => exact wpIn_exit ⟨g1, g2, env, hag, hex i _ (hE _ _ _ hsh hi2)⟩
        case goto i => exact absurd hi2 (hgo i _)
    · -- one round
      rintro i x w1 hx ⟨hl2, hk2, hi2⟩ hsm
      have hlen : x.toArray.size = (rec_ .ready none).params.size := by simpa [rec_] using hps x (List.mem_of_getElem? hx)
      have hag2 : Agree n (parE ps.toList x env) { tmps := (ps.zip x.toArray).foldl (fun t p => t.setIfInBounds p.1 p.2) a.tmps, defers := [] } := by
        have := Agree.par (ds := []) ps.toList x env a.tmps hpn ⟨ha.size, ha.val⟩
        have e9 : (ps.zip x.toArray).foldl (fun t p => t.setIfInBounds p.1 p.2) a.tmps = (ps.toList.zip x).foldl (fun t p => t.setIfInBounds p.1 p.2) a.tmps := by cases ps;simp
        rw [e9];exact this
      have hfr0 : ∀ H : Heap, Fr 0 [] H := fun H => ⟨Nat.zero_le _, List.nodup_nil, fun d hd => by cases hd⟩
      refine ⟨fn, _, asg, body, run_yield (P := P) hl2 hlen, roundIn_of_wpIn trivial (wpIn_mono ((hbody i x _ hx hi2).run (some l) 0 0 _ w1 hag2 (hfr0 _) (fun l' hl' => by cases hl';exact ⟨_, hl2⟩) rfl) fun ea aa wa hla => ?_)⟩
      have hla2 : ea = .normal ∧ Same w1 wa ∧ Fr 0 aa.defers wa.heap ∧ ∃ env1, Agree n env1 aa ∧ ∀ h2, Shut w.heap.size wa.heap h2 → CW P n body (roundQ (I (i + 1)) E) env1 h2 := by
        cases ea <;> simp only [lift] at hla
        case normal => obtain ⟨q1, q2, e1, q3, _, q4⟩ := hla;exact ⟨rfl, q1, q2, e1, q3, q4⟩
        all_goals (obtain ⟨_, _, _, _, q, _⟩ := hla;cases q)
      obtain ⟨rfl, hsa, hfa, env1, haga, hbo⟩ := hla2
      have hla3 := hsa.ctl l _ hl2 rfl
      have hka := hKsame _ _ hsa hk2
      refine ⟨_, run_beginRound hla3 rfl, ?_⟩
      have hlt := (Array.getElem?_eq_some_iff.1 hla3).1
      have hl3 : (wa.putObj l (.loop { rec_ .ready none with state := .busy })).heap[l]? = some (.loop { rec_ .ready none with state := .busy }) := World.putObj_heap_same hlt
      have hrun := (hbo _ (Shut.put (o' := .loop { rec_ .ready none with state := .busy }) hla3 rfl hl)).run (some l) 0 0 aa (wa.putObj l (.loop { rec_ .ready none with state := .busy })) haga ⟨Nat.zero_le _, hfa.nd, fun d hd => by
          obtain ⟨D', r1, r2, r3⟩ := hfa.mks d hd
          exact ⟨D', r1, r2, (World.putObj_heap_other (fun e => by subst e;rw [hla3] at r3;cases r3)).trans r3⟩⟩ (fun l' hl' => by cases hl';exact ⟨_, hl3⟩) rfl
      refine wpIn_mono hrun fun e a2 w2 hl4 => ?_
      have fin : ∀ (jump : Option Code), Same (wa.putObj l (.loop { rec_ .ready none with state := .busy })) w2 →
          (Instr.endRound l jump).run P w2 = .ok (.bool jump.isNone) (w2.putObj l (.loop (rec_ (if jump.isNone then .ready else .done) jump))) ∧ Shut w.heap.size w2.heap (w2.putObj l (.loop (rec_ (if jump.isNone then .ready else .done) jump))).heap ∧
          (w2.putObj l (.loop (rec_ (if jump.isNone then .ready else .done) jump))).heap[l]? = some (.loop (rec_ (if jump.isNone then .ready else .done) jump)) ∧ Kp (w2.putObj l (.loop (rec_ (if jump.isNone then .ready else .done) jump))).heap ∧
          Sm w1 (w2.putObj l (.loop (rec_ (if jump.isNone then .ready else .done) jump))) := fun jump hs => by
        have h9 := hs.ctl l _ hl3 rfl
        exact ⟨run_endRound (P := P) jump h9, Shut.put h9 rfl hl, World.putObj_heap_same (Array.getElem?_eq_some_iff.1 h9).1, hKput _ _ (hKsame _ _ hs (hKput _ _ hka)), hsa.sm.trans ((Sm.put _ _ _).trans (hs.sm.trans (Sm.put _ _ _)))⟩
      cases e with
      | normal =>
        obtain ⟨hs, _, _, _, hq⟩ := hl4
        obtain ⟨g1, g2, g3, g4, g5⟩ := fin none hs
        exact ⟨_, _, g1, g5, .inl ⟨rfl, g3, g4, hI _ _ _ g2 hq⟩⟩
      | ret =>
        obtain ⟨hs, _, _, _, hq⟩ := hl4
        obtain ⟨g1, g2, g3, g4, g5⟩ := fin (some .ret) hs
        exact ⟨_, _, g1, g5, .inr ⟨rfl, _, g3, g4, hE _ _ _ g2 hq⟩⟩
      | exit q =>
        obtain ⟨hs, _, _, _, hq⟩ := hl4
        obtain ⟨g1, g2, g3, g4, g5⟩ := fin (some (.exit q)) hs
        exact ⟨_, _, g1, g5, .inr ⟨rfl, _, g3, g4, hE _ _ _ g2 hq⟩⟩
      | goto q =>
        obtain ⟨hs, _, _, _, hq⟩ := hl4
        exact absurd hq (hgo q _)
      | panic c => exact hl4.elim
      | outgrown => exact hl4.elim
end

structure ItA (P : Program) (gf : FuncId) (caps : List AV) (xs : List (List AV)) : Prop where
 run : ∀ h G vs, RepT h G vs caps → ∃ ys : List (List Value), ys.length = xs.length ∧ (∀ (i : Nat) (y : List Value) (x : List AV), ys[i]? = some y → xs[i]? = some x → RepT h G y x) ∧ IterH P gf vs ys (fun h' => FPx G h h')
def parA : List Tmp → List AV → EA → EA
 | p :: ps, v :: vs, e => parA ps vs ((p, v) :: e)
 | _, _, e => e
theorem look_par {h : Heap} {G : Nat → Prop} : ∀ (ps : List Tmp) (vs : List Value) (asx : List AV) (e : EA) (env : Env), RepT h G vs asx → (∀ t a, lookA e t = some a → ∃ v, look env t = some v ∧ a.R h G v) → ∀ t a, lookA (parA ps asx e) t = some a → ∃ v, look (parE ps vs env) t = some v ∧ a.R h G v
 | [], _, _, _, _, _, he => by simpa [parA, parE] using he
 | _ :: _, [], [], _, _, _, he => by simpa [parA, parE] using he
 | p :: ps, v :: vs, a :: asx, e, env, ⟨h1, h2⟩, he => by
  simp only [parA, parE]
  refine look_par ps vs asx _ _ h2 fun t b hb => ?_
  rw [lookA_cons] at hb
  rw [look_cons]
  by_cases hk : p = t
  ·rw [if_pos hk] at hb ⊢;cases hb;exact ⟨v, rfl, h1⟩
  ·rw [if_neg hk] at hb ⊢;exact he t b hb
def rdI (h0 : Heap) (G0 O0 : Nat → Prop) (M : Exit → List Res → Prop) : Exit → Env → Heap → Prop := fun x _ h => ∃ own G Os, M x own ∧ HpOK h0 G0 O0 own h G Os
section
variable {Γ : Cx} {k : List KI} {e : EA} {o : List Res}
theorem PA.rd {x : Exit} {M : Exit → List Res → Prop} (o' : List Res) (hs : Subl o o') (hm : M x o') : PA Γ (.rd (rdI Γ.h0 Γ.G0 Γ.O0 M) :: k) x e o :=
 ⟨fun _ _ G _ cn => PK.rd (let ⟨Os', c, _⟩ := cn.hp.sub hs; ⟨o', G, Os', hm, c⟩)⟩
theorem PA.brk (h0g : ∀ b, Γ.G0 b → b < Γ.h0.size) (hfp : Γ.fp.n = none) (h : PA Γ k .normal e o) : PA Γ (.brk Γ.h0.size :: k) .normal e o :=
 ⟨fun env hh G Os cn => PK.brk fun h' hs => h.h env h' G Os ⟨cn.hp.shut h0g hs, fun t a ha => let ⟨v, h1, h2⟩ := cn.env t a ha; ⟨v, h1, a.stp (cn.hp.shutF h0g hs) h2⟩, FpOK.none hfp⟩⟩
def rdM (J : List Res → Prop) (E : Exit → List Res → Prop) : Exit → List Res → Prop
 | .normal, o => J o
 | x, o => E x o
theorem CA.range {P : Program} {tt : Nat → Option TI} {en : Nat → Bool} {ok : PgOK P tt en} {T : Nat → Ord × (Nat → Cls)} {n : Nat} {rs : Array ResultVar} {K : AV → List Res → Prop} {h0 : Heap} {G0 O0 : Nat → Prop} {g : Operand} {ps : Array Tmp} {asg body : Code} {gf : FuncId} {caps : List AV} {xs : List (List AV)}
  (hg : evA e g = some (.fn gf caps)) (he : en gf = true) (hit : ItA P gf caps xs) (hps : ∀ x ∈ xs, x.length = ps.size) (hpn : (ps.toList.all (Nat.blt · n)) = true) (J : Nat → List Res → Prop) (E : Exit → List Res → Prop) (hj : J 0 o)
  (hb : ∀ i x o', xs[i]? = some x → J i o' → ∀ h0 G0 O0, (∀ b, G0 b → b < h0.size) → CA ⟨P, tt, en, ok, T, n, rs, K, h0, G0, O0, ⟨none⟩⟩ [.brk h0.size, .code body, .rd (rdI h0 G0 O0 (rdM (J (i + 1)) E))] asg (parA ps.toList x e) o')
  (hd : ∀ o', J xs.length o' → PA ⟨P, tt, en, ok, T, n, rs, K, h0, G0, O0, ⟨none⟩⟩ k .normal e o') (hret : ∀ o', E .ret o' → PA ⟨P, tt, en, ok, T, n, rs, K, h0, G0, O0, ⟨none⟩⟩ k .ret e o') (hex : ∀ i o', E (.exit i) o' → PA ⟨P, tt, en, ok, T, n, rs, K, h0, G0, O0, ⟨none⟩⟩ k (.exit i) e o') (hgo : ∀ i o', ¬ E (.goto i) o') :
  CA ⟨P, tt, en, ok, T, n, rs, K, h0, G0, O0, ⟨none⟩⟩ k (.rangeFunc g ps asg body) e o := by
 refine ⟨fun env h G Os cn => ?_⟩
 obtain ⟨v, g1, vs, rfl, g2⟩ := cn.get hg
 obtain ⟨ys, hlen, hys, hit2⟩ := hit.run h G vs g2
 have hp0 : HpOK h0 G0 O0 (o ++ []) h G (Os ++ []) := by simpa using cn.hp
 have hGl : ∀ b, G b → b < h.size := fun b hb => (cn.hp.g b hb).1
 have hGU : ∀ b, G b → ¬ U Os b := fun b hb ⟨O, hO, ho⟩ => (cn.hp.o O hO b ho).2.2 hb
 have inn : HpOK h G (U Os) o h G Os := hp0.inner cn.hp.own
 have back : ∀ h' o' G' Os', HpOK h G (U Os) o' h' G' Os' → Con ⟨P, tt, en, ok, T, n, rs, K, h0, G0, O0, ⟨none⟩⟩ ⟨e, o'⟩ env h' G' Os' := fun h' o' G' Os' c' => by
  obtain ⟨k1, k2, k3⟩ := hp0.call (r2 := []) (o2 := []) trivial c'
  refine ⟨by simpa using k1, fun t a ha => ?_, FpOK.none rfl⟩
  obtain ⟨u, h1, h2⟩ := cn.env t a ha
  exact ⟨u, h1, a.mono k3 (a.stp k2 h2)⟩
 refine CW.rangeFunc (xs := ys) g1 (fun args w => ok.entOK gf he args w) hit2 (fun y hy => ?_) (fun p hp => by simpa using List.all_eq_true.1 hpn p hp)
  (fun i h' => ∃ o' G' Os', J i o' ∧ HpOK h G (U Os) o' h' G' Os') (fun x h' => ∃ o' G' Os', E x o' ∧ HpOK h G (U Os) o' h' G' Os')
  (fun i h1 h2 hs ⟨o', G', Os', a1, a2⟩ => ⟨o', G', Os', a1, a2.shut hGl hs⟩) (fun i h1 h2 hs ⟨o', G', Os', a1, a2⟩ => ⟨o', G', Os', a1, a2.shut hGl hs⟩)
  (fun i h' ⟨o', G', Os', a1, a2⟩ => a2.fp.mono hGU) ⟨o, G, Os, hj, inn⟩ ?_ ?_ ?_ ?_ ?_
 ·obtain ⟨i, hi⟩ := List.getElem?_of_mem hy
  obtain ⟨x, hx⟩ : ∃ x, xs[i]? = some x := ⟨_, List.getElem?_eq_getElem (by rw [← hlen];exact (List.getElem?_eq_some_iff.1 hi).1)⟩
  rw [(hys i y x hi hx).len];exact hps x (List.mem_of_getElem? hx)
 ·rintro i y h' hy ⟨o', G', Os', a1, a2⟩
  obtain ⟨x, hx⟩ : ∃ x, xs[i]? = some x := ⟨_, List.getElem?_eq_getElem (by rw [← hlen];exact (List.getElem?_eq_some_iff.1 hy).1)⟩
  have hc := back h' o' G' Os' a2
  have hr : RepT h' G' y x := ((hys i y x hy hx).stp (a2.fp.mono hGU)).mono a2.g0
  have hin : HpOK h G (U Os) o' h' G' Os' := a2
  have hrd : ∀ x' e' h2, PK P n (endR ⟨P, tt, en, ok, T, n, rs, K, h, G, U Os, ⟨none⟩⟩) [.rd (rdI h G (U Os) (rdM (J (i + 1)) E))] x' e' h2 → roundQ (fun h' => ∃ o' G' Os', J (i + 1) o' ∧ HpOK h G (U Os) o' h' G' Os') (fun x h' => ∃ o' G' Os', E x o' ∧ HpOK h G (U Os) o' h' G' Os') x' e' h2 := fun x' e' h2 hq => by
   have hq : rdI h G (U Os) (rdM (J (i + 1)) E) x' e' h2 := by
    unfold PK at hq;cases x' <;> exact hq
   obtain ⟨o2, G2, Os2, b1, b2⟩ := hq
   cases x' <;> exact ⟨o2, G2, Os2, b1, b2⟩
  refine CW.mono (fun x' e' h2 hq => ?_) ((hb i x o' hx a1 h G (U Os) hGl).h (parE ps.toList y env) h' G' Os' ⟨hin, look_par ps.toList y x e env hr hc.env, FpOK.none rfl⟩)
  unfold PK at hq
  cases x' <;> simp only at hq
  case normal =>
   refine ⟨rfl, fun h3 hs => ?_⟩
   have := hq h3 hs
   unfold PK at this
   exact CW.mono hrd this
 ·rintro h' ⟨o', G', Os', a1, a2⟩
  exact (hd o' (hlen ▸ a1)).h env h' G' Os' (back h' o' G' Os' a2)
 ·rintro h' ⟨o', G', Os', a1, a2⟩
  exact (hret o' a1).h env h' G' Os' (back h' o' G' Os' a2)
 ·rintro i h' ⟨o', G', Os', a1, a2⟩
  exact (hex i o' a1).h env h' G' Os' (back h' o' G' Os' a2)
 ·rintro i h' ⟨o', G', Os', a1, a2⟩
  exact hgo i o' a1
theorem CA.nilCell {α : Type} {y : Code} {b i : Nat} {T : TypeId} {cs : List AV} {rest : List Res} (tk : Take o (blkR b T cs) rest) (hi : cs[i]? = some (.val (.slice none 0 0))) (T' sz : Nat) (f : α → List AV)
  (h : ∀ v, CA Γ k y e (blkR b T (cs.set i (.ow v)) :: arrR v T' sz [] f :: rest)) : CA Γ k y e o := by
 refine ⟨fun env hh G Os cn => ?_⟩
 obtain ⟨O, Os', cn2⟩ := cn.take tk
 have hp : HpOK Γ.h0 Γ.G0 Γ.O0 (arrR (.slice none 0 0) T' sz [] f :: blkR b T cs :: rest) hh G ((fun _ => False) :: O :: Os') := HpOK.nilA cn2.hp T' sz f
 obtain ⟨h1, ⟨ho, vs, hb, hr⟩, h2⟩ := hp.own
 obtain ⟨u, hu, hu2⟩ := hr.t.get hi
 have hu2 : u = .slice none 0 0 := hu2
 subst hu2
 have hset : vs.set i (.slice none 0 0) = vs := by
  apply List.ext_getElem?
  intro j
  rw [List.getElem?_set]
  by_cases hij : i = j
  ·subst hij;rw [if_pos rfl, if_pos (List.getElem?_eq_some_iff.1 hu).1, hu]
  ·rw [if_neg hij]
 have hr2 := hr.t.set i (v := .slice none 0 0) (a := .ow (.slice none 0 0)) ⟨rfl, none, 0, 0, rfl⟩
 rw [hset] at hr2
 have hp2 : HpOK Γ.h0 Γ.G0 Γ.O0 (blkR b T (cs.set i (.ow (.slice none 0 0))) :: arrR (.slice none 0 0) T' sz [] f :: rest) hh G (O :: (fun _ => False) :: Os') := hp.perm ⟨⟨ho, vs, hb, hr2, hr.one⟩, h1, h2⟩ (List.Perm.swap _ _ _)
 exact (h (.slice none 0 0)).h env hh G _ ⟨hp2, cn.env, cn.nf⟩
end
end Go.CF
namespace Go.CF
open Go
theorem ON.refl : ∀ a : Ord, ON a a
 | .done => .done
 | .none => .none
 | .one _ r => .one (ON.refl r)
 | .alt _ r m => .alt (ON.refl r) (ON.refl m)
def altsT (f : Nat → Ord) : List Nat → Ord
 | [] => .none
 | i :: l => .alt i (f i) (altsT f l)
def fillT (rest : Ord) : Nat → List Nat → Ord
 | 0, _ => rest
 | 1, [i] => .one i rest
 | n + 1, ps => altsT (fun i => fillT rest n (ps.erase i)) ps
section
variable {ops : Array Oper} {cl : Nat → Cls}
def arrL (l0 : Array Bool) (ps0 ps : List Nat) : Array Bool := ((List.range l0.size).map fun j => l0.getD j false || (ps0.contains j && !ps.contains j)).toArray
def subsL : List Nat → List (List Nat)
 | [] => [[]]
 | a :: l => (subsL l).map (a :: ·) ++ subsL l
theorem subsL_mem {ps ps0 : List Nat} (h : List.Sublist ps ps0) : ps ∈ subsL ps0 := by
 induction h with
 | slnil => simp [subsL]
 | cons a _ ih => simp [subsL, ih]
 | cons_cons a _ ih => simp [subsL, ih]
def chkM (ops : Array Oper) (cl : Nat → Cls) (rest : Ord) (fuel : Nat) (l0 : Array Bool) (ps0 : List Nat) : Bool :=
 ((subsL ps0).all fun ps => ps.isEmpty || Region.ready .any ops (arrL l0 ps0 ps) == ps) && ps0.all (fun i => acts (cl i) && !l0.getD i true) && chkG ops cl rest fuel true (arrL l0 ps0 [])
theorem arrL_all {l0 : Array Bool} {ps0 : List Nat} : arrL l0 ps0 ps0 = l0 := by
 apply Array.ext_getElem?
 intro j
 simp only [arrL, List.getElem?_toArray, List.getElem?_map, Bool.and_not_self, Bool.or_false]
 by_cases hj : j < l0.size
 ·simp [Array.getD, hj]
 ·simp [hj]
theorem arrL_set {l0 : Array Bool} {ps0 ps : List Nat} {i : Nat} (hn : ps.Nodup) (h0 : i ∈ ps0) (_hi : i ∈ ps) : (arrL l0 ps0 ps).setIfInBounds i true = arrL l0 ps0 (ps.erase i) := by
 apply Array.ext_getElem?
 intro j
 rw [Array.getElem?_setIfInBounds]
 simp only [arrL, List.getElem?_toArray, List.getElem?_map, List.size_toArray, List.length_map, List.length_range]
 by_cases hij : i = j
 ·subst hij
  by_cases hj : i < l0.size
  ·have : (ps.erase i).contains i = false := by simpa using hn.not_mem_erase
   simp [hj, h0, hn.not_mem_erase]
  ·simp [hj]
 ·rw [if_neg hij]
  have hc : (ps.erase i).contains j = ps.contains j := by
   simp only [List.contains_eq_mem, List.mem_erase_of_ne (Ne.symm hij)]
  by_cases hj : j < l0.size
  ·simp only [List.getElem?_range hj, Option.map_some, hc]
  ·simp [hj]
def oneOK (ops : Array Oper) (cl : Nat → Cls) (i : Nat) (listed : Array Bool) : Bool := match cl i with
 | .pure => (Region.ready .any ops listed).contains i && Region.free .any ops listed i
 | .read => (Region.ready .any ops listed).contains i && Region.free .any ops listed i && (List.range ops.size).all fun j => listed.getD j true || !isLoud (cl j) || waitsB ops i ops.size j
 | _ => Region.ready .any ops listed == [i]
theorem chk_one_eq {i : Nat} {r : Ord} {fuel : Nat} {listed : Array Bool} : chkG ops cl (.one i r) (fuel + 1) true listed = (oneOK ops cl i listed && chkG ops cl r fuel true (listed.setIfInBounds i true)) := by
 simp only [chkG, oneOK]
 cases cl i <;> simp
theorem altsT_heads {f : Nat → Ord} : ∀ l, (altsT f l).heads = l
 | [] => rfl
 | i :: l => by simp [altsT, Ord.heads, altsT_heads l]
theorem chk_alts {f : Nat → Ord} {fuel : Nat} {listed : Array Bool} : ∀ {l : List Nat}, (∀ i ∈ l, acts (cl i) = true ∧ chkG ops cl (f i) fuel true (listed.setIfInBounds i true) = true) → chkG ops cl (altsT f l) (fuel + 1) false listed = true
 | [], _ => by simp [altsT, chkG]
 | i :: l, h => by
  simp only [altsT, chkG, Bool.not_false, Bool.true_or, Bool.true_and, Bool.and_eq_true]
  exact ⟨h i (by simp), chk_alts fun j hj => h j (by simp [hj])⟩
theorem chk_fill {rest : Ord} {fuel : Nat} {l0 : Array Bool} {ps0 : List Nat} (hn : ps0.Nodup) (h : chkM ops cl rest fuel l0 ps0 = true) : chkG ops cl (fillT rest ps0.length ps0) (fuel + ps0.length) true l0 = true := by
 simp only [chkM, Bool.and_eq_true, List.all_eq_true, Bool.or_eq_true] at h
 obtain ⟨⟨h1, h2⟩, h3⟩ := h
 have key : ∀ (n : Nat) (ps : List Nat), ps.length = n → List.Sublist ps ps0 → chkG ops cl (fillT rest n ps) (fuel + n) true (arrL l0 ps0 ps) = true := by
  intro n
  induction n with
  | zero =>
   intro ps hl _
   have : ps = [] := List.length_eq_zero_iff.1 hl
   subst this
   exact h3
  | succ n ih =>
   intro ps hl hs
   have hnp : ps.Nodup := List.Sublist.nodup hs hn
   have hready : Region.ready .any ops (arrL l0 ps0 ps) = ps := by
    rcases h1 ps (subsL_mem hs) with h9|h9
    ·rw [List.isEmpty_iff] at h9;subst h9;simp at hl
    ·exact eq_of_beq h9
   have sub : ∀ i ∈ ps, acts (cl i) = true ∧ chkG ops cl (fillT rest n (ps.erase i)) (fuel + n) true ((arrL l0 ps0 ps).setIfInBounds i true) = true := by
    intro i hi
    refine ⟨(h2 i (hs.mem hi)).1, ?_⟩
    rw [arrL_set hnp (hs.mem hi) hi]
    exact ih _ (by rw [List.length_erase_of_mem hi];omega) ((List.erase_sublist).trans hs)
   have gen : 2 ≤ ps.length → chkG ops cl (altsT (fun i => fillT rest n (ps.erase i)) ps) (fuel + n + 1) true (arrL l0 ps0 ps) = true := by
    intro h2l
    match ps, hready, sub with
    | i :: l, hready, sub =>
     simp only [altsT, chkG, altsT_heads, hready, beq_self_eq_true, Bool.or_true, Bool.true_and, Bool.and_eq_true]
     exact ⟨sub i (by simp), chk_alts fun j hj => sub j (by simp [hj])⟩
   match n, ps, hl, gen, sub, hready with
   | 0, [i], _, _, sub, hready =>
    obtain ⟨g1, g2⟩ := sub i (by simp)
    have g3 : oneOK ops cl i (arrL l0 ps0 [i]) = true := by
     revert g1
     unfold oneOK
     cases cl i <;> simp [acts, hready]
    show chkG ops cl (.one i rest) (fuel + 1) true (arrL l0 ps0 [i]) = true
    rw [chk_one_eq, g3]
    simpa [fillT] using g2
   | n + 1, ps, hl, gen, _, _ => exact gen (by omega)
 have := key _ ps0 rfl (List.Sublist.refl _)
 rwa [arrL_all] at this
theorem chk_one {i : Nat} {r : Ord} {fuel : Nat} {listed : Array Bool} (h1 : oneOK ops cl i listed = true) (h2 : chkG ops cl r fuel true (listed.setIfInBounds i true) = true) : chkG ops cl (.one i r) (fuel + 1) true listed = true := by
 rw [chk_one_eq, h1, h2];rfl
end
section
variable {Γ : Cx} {k : List KI} {e : EA} {o : List Res} {ops : Array Oper} {cl : Nat → Cls}
theorem RA'.alts {f : Nat → Ord} : ∀ {ps : List Nat}, (∀ i ∈ ps, RA' Γ k ops cl (.one i (f i)) e o) → RA' Γ k ops cl (altsT f ps) e o
 | [], _ => show RA' Γ k ops cl .none e o from Sp.h (s := True) trivial
 | i :: l, h => show RA' Γ k ops cl (.alt i (f i) (altsT f l)) e o from Sp.h (s := RA' Γ k ops cl (.one i (f i)) e o ∧ RA' Γ k ops cl (altsT f l) e o) ⟨h i (by simp), RA'.alts fun j hj => h j (by simp [hj])⟩
theorem lookL_mem {β : Type} {kvs : List (List Int × β)} (hn : kvs.Pairwise fun a b => a.1 ≠ b.1) {key : List Int} {v : β} (h : (key, v) ∈ kvs) : lookL kvs key = some v := by
 induction kvs with
 | nil => cases h
 | cons a l ih =>
  obtain ⟨h1, h2⟩ := List.pairwise_cons.1 hn
  simp only [lookL, List.find?_cons] at ih ⊢
  rcases List.mem_cons.1 h with rfl|h
  ·simp
  ·have h3 := h1 _ h
   have h4 : decide (a.1 = key) = false := by simpa using h3
   rw [h4]
   exact ih h2 h
theorem lookL_nil {β : Type} {kvs : List (List Int × β)} {key : List Int} (h : ∀ p ∈ kvs, p.1 ≠ key) : lookL kvs key = none := by
 unfold lookL
 rw [List.find?_eq_none.2 fun p hp => by simpa using h p hp]
 rfl
theorem lookL_perm {β : Type} {a b : List (List Int × β)} (hp : a.Perm b) (hn : b.Pairwise fun x y => x.1 ≠ y.1) (key : List Int) : lookL a key = lookL b key := by
 have hna : a.Pairwise fun x y => x.1 ≠ y.1 := hp.symm.pairwise hn fun h => fun h' => h h'.symm
 by_cases h : ∃ v, (key, v) ∈ b
 ·obtain ⟨v, hv⟩ := h
  rw [lookL_mem hn hv, lookL_mem hna (hp.mem_iff.2 hv)]
 ·rw [lookL_nil (kvs := b) (key := key) fun p hp' hk => h ⟨p.2, by subst hk;exact hp'⟩, lookL_nil (kvs := a) (key := key) fun p hp' hk => h ⟨p.2, by subst hk;exact hp.mem_iff.1 hp'⟩]
theorem RA'.fill {β : Type} {b : Nat} {kt : TypeId} {f : β → AV} {rest : Ord} (items : Nat → List Int × β) (ps0 : List Nat) (hnd : (ps0.map items).Pairwise fun x y => x.1 ≠ y.1)
  (hs : ∀ i ∈ ps0, ∀ kvs r, RA' Γ k ops cl r e (mapR Γ.P b kt (updL kvs (items i).1 (items i).2) f :: o) → RA' Γ k ops cl (.one i r) e (mapR Γ.P b kt kvs f :: o))
  (h : ∀ kvs, kvs.Perm (ps0.map items) → RA' Γ k ops cl rest e (mapR Γ.P b kt kvs f :: o)) :
  RA' Γ k ops cl (fillT rest ps0.length ps0) e (mapR Γ.P b kt [] f :: o) := by
 have key : ∀ (n : Nat) (ps : List Nat) (kvs : List (List Int × β)), ps.length = n → (kvs ++ ps.map items).Perm (ps0.map items) → (∀ i ∈ ps, i ∈ ps0) → RA' Γ k ops cl (fillT rest n ps) e (mapR Γ.P b kt kvs f :: o) := by
  intro n
  induction n with
  | zero =>
   intro ps kvs hl hp _
   have : ps = [] := List.length_eq_zero_iff.1 hl
   subst this
   exact h kvs (by simpa using hp)
  | succ n ih =>
   intro ps kvs hl hp hm
   have step : ∀ i ∈ ps, ∀ r, RA' Γ k ops cl r e (mapR Γ.P b kt (kvs ++ [items i]) f :: o) → RA' Γ k ops cl (.one i r) e (mapR Γ.P b kt kvs f :: o) := by
    intro i hi r hr
    refine hs i (hm i hi) kvs r ?_
    have hnk : lookL kvs (items i).1 = none := by
     refine lookL_nil fun p hpm hk => ?_
     have hna : (kvs ++ ps.map items).Pairwise fun x y => x.1 ≠ y.1 := hp.symm.pairwise hnd fun h => fun h' => h h'.symm
     exact (List.pairwise_append.1 hna).2.2 p hpm (items i) (List.mem_map_of_mem hi) hk
    rw [updL_none _ _ _ hnk]
    exact hr
   have sub : ∀ i ∈ ps, RA' Γ k ops cl (fillT rest n (ps.erase i)) e (mapR Γ.P b kt (kvs ++ [items i]) f :: o) := by
    intro i hi
    refine ih _ _ (by rw [List.length_erase_of_mem hi];omega) ?_ fun j hj => hm j (List.mem_of_mem_erase hj)
    refine List.Perm.trans ?_ hp
    rw [List.append_assoc]
    refine List.Perm.append_left kvs ?_
    have := (List.perm_cons_erase hi).map items
    exact this.symm
   have gen : RA' Γ k ops cl (altsT (fun i => fillT rest n (ps.erase i)) ps) e (mapR Γ.P b kt kvs f :: o) := RA'.alts fun i hi => step i hi _ (sub i hi)
   match n, ps, hl, gen, sub, step with
   | 0, [i], _, _, sub, step => exact step i (by simp) _ (sub i (by simp))
   | n + 1, ps, _, gen, _, _ => exact gen
 exact key _ ps0 [] rfl (by simp) fun _ h => h
end
end Go.CF
namespace Go.CF
open Go
structure ALe (a b : AV) : Prop where
 le : ∀ {h : Heap} {G : Nat → Prop} {v : Value}, a.R h G v → b.R h G v
theorem ALe.refl (a : AV) : ALe a a := ⟨fun h => h⟩
theorem ALe.nil {α : Type} {sz : Nat} {f : α → List AV} : ALe (.val (.slice none 0 0)) (.sl sz [] f) := ⟨fun h => by
 have h : _ = _ := h
 subst h
 exact ⟨by simp, .inl ⟨rfl, none, 0, rfl⟩⟩⟩
inductive RLe : List AV → List AV → Prop where
 | nil : RLe [] []
 | cons {a b : AV} {l m : List AV} : ALe a b → RLe l m → RLe (a :: l) (b :: m)
theorem RLe.rep {h : Heap} {G : Nat → Prop} {l m : List AV} (x : RLe l m) : ∀ {vs : List Value}, RepT h G vs l → RepT h G vs m := by
 induction x with
 | nil => exact fun hr => hr
 | cons ha _ ih =>
  intro vs hr
  match vs, hr with
  | v :: vs, ⟨h1, h2⟩ => exact ⟨ha.le h1, ih h2⟩
theorem ALe.sl {α β : Type} {sz : Nat} {l : List α} {f : α → List AV} {ys : List β} {g : β → List AV} (hl : l.length = ys.length) (hr : ∀ (i : Nat) x y, l[i]? = some x → ys[i]? = some y → RLe (f x) (g y)) : ALe (.sl sz l f) (.sl sz ys g) := ⟨fun {h G v} hv => by
 obtain ⟨h1, ⟨h2, p, cap, h3⟩|⟨b, o, cap, rows, h2, h3, h4, h5, h6, h7, h8⟩⟩ := hv
 ·subst h2
  exact ⟨by rw [← hl];exact h1, .inl ⟨List.eq_nil_of_length_eq_zero (by rw [← hl];rfl), p, cap, h3⟩⟩
 ·refine ⟨by rw [← hl];exact h1, .inr ⟨b, o, cap, rows, by rw [← hl];exact h2, by rw [← hl];exact h3, by rw [← hl];exact h4, h5, h6, h7, ⟨by rw [h8.len, hl], fun i r y g1 g2 => ?_, h8.sz⟩⟩⟩
  have hi := (List.getElem?_eq_some_iff.1 g2).1
  have hx : l[i]? = some (l[i]'(by omega)) := List.getElem?_eq_getElem _
  have g3 := h8.row i r _ g1 hx
  exact ⟨(hr i _ y hx g2).rep g3.t, g3.one⟩⟩
theorem CallA.conv {P : Program} {f : FuncId} {asx : List AV} {own : List Res} {a b : AV} (hab : ALe a b) (h : CallA P f asx own fun q o => q = a ∧ o = []) : CallA P f asx own fun q o => q = b ∧ o = [] :=
 ⟨fun hh G Os vs h1 h2 => (h.run hh G Os vs h1 h2).mono fun v' h' ⟨r, o, G', Os', ⟨e1, e2⟩, g1, g2⟩ => by
  subst e1;subst e2
  exact ⟨_, _, _, _, ⟨rfl, rfl⟩, hab.le g1, g2⟩⟩
section
variable {k : List KI} {e : EA} {o : List Res}
end
end Go.CF
namespace Go.CF
open Go
inductive FX : List Res → List AV → List AV → List Res → Prop where
 | nil {o : List Res} : FX o [] [] o
 | le {o own : List Res} {a b : AV} {l l' : List AV} : ALe a b → FX o l l' own → FX o (a :: l) (b :: l') own
 | agg {o o1 own : List Res} {cs cs' l l' : List AV} : FX o cs cs' o1 → FX o1 l l' own → FX o (.agg cs :: l) (.agg cs' :: l') own
 | tup {o o1 own : List Res} {cs cs' l l' : List AV} : FX o cs cs' o1 → FX o1 l l' own → FX o (.tup cs :: l) (.tup cs' :: l') own
 | unb {o rest own rs : List Res} {l l' : List AV} : Take o (bunR rs) rest → FX (rs ++ rest) l l' own → FX o l l' own
 | sl {o rest o1 own : List Res} {l l' : List AV} {α β : Type} {v : Value} {T sz : Nat} {xs : List α} {f : α → List AV} {ys : List β} {g : β → List AV} :
   Take o (arrR v T sz xs f) rest → xs.length ≤ 9223372036854775807 → FX rest (xs.map fun x => .agg (f x)) (ys.map fun y => .agg (g y)) o1 → FX o1 l l' own → FX o (.ow v :: l) (.sl sz ys g :: l') own
theorem FX.len {o own : List Res} {l l' : List AV} (x : FX o l l' own) : l.length = l'.length := by
 induction x with
 | nil => rfl
 | le _ _ ih => simp [ih]
 | agg _ _ _ ih => simp [ih]
 | tup _ _ _ ih => simp [ih]
 | unb _ _ ih => exact ih
 | sl _ _ _ _ _ ih => simp [ih]
theorem RepLL.aggs {h : Heap} {G : Nat → Prop} {α : Type} {f : α → List AV} : ∀ {rows : List (List Value)} {l : List α}, RepLL h G rows (l.map f) → RepT h G (rows.map fun r => .agg r.toArray) (l.map fun x => .agg (f x))
 | [], [], _ => trivial
 | _ :: _, _ :: _, ⟨h1, h2⟩ => ⟨⟨_, rfl, h1⟩, RepLL.aggs h2⟩
 | [], _ :: _, h => h.elim
 | _ :: _, [], h => h.elim
theorem RepLL.unaggs {h : Heap} {G : Nat → Prop} {α : Type} {f : α → List AV} : ∀ {rows : List (List Value)} {l : List α}, RepT h G (rows.map fun r => .agg r.toArray) (l.map fun x => .agg (f x)) → RepLL h G rows (l.map f)
 | [], [], _ => trivial
 | v :: vs, x :: l, ⟨⟨ws, e, h1⟩, h2⟩ => by
  have e' : v = ws := by
   have := congrArg (fun u => match u with|Value.agg a => a.toList|_ => []) e
   simpa using this
  subst e'
  exact ⟨h1, RepLL.unaggs h2⟩
 | [], _ :: _, h => h.elim
 | _ :: _, [], h => h.elim
theorem FX.rep {h0 : Heap} {G0 O0 : Nat → Prop} {h : Heap} {o own : List Res} {l l' : List AV} (x : FX o l l' own) : ∀ {G : Nat → Prop} {Os : List (Nat → Prop)} {vs : List Value}, HpOK h0 G0 O0 o h G Os → RepT h G vs l → ∃ G' Os', HpOK h0 G0 O0 own h G' Os' ∧ RepT h G' vs l' ∧ ∀ b, G b → G' b := by
 induction x with
 | nil => exact fun {G Os vs} c hr => ⟨G, Os, c, hr, fun _ h => h⟩
 | le ha _ ih =>
  intro G Os vs c hr
  match vs, hr with
  | v :: vs, ⟨r1, r2⟩ =>
   obtain ⟨G', Os', h1, h2, h3⟩ := ih c r2
   exact ⟨G', Os', h1, ⟨AV.mono _ h3 (ha.le r1), h2⟩, h3⟩
 | agg _ _ ih1 ih =>
  intro G Os vs c hr
  match vs, hr with
  | v :: vs, ⟨⟨ws, r1, r3⟩, r2⟩ =>
   obtain ⟨G1, Os1, h1, h2, h3⟩ := ih1 c r3.t
   obtain ⟨G2, Os2, h4, h5, h6⟩ := ih h1 (r2.mono h3)
   exact ⟨G2, Os2, h4, ⟨⟨ws, r1, h2.mono h6, r3.one⟩, h5⟩, fun b hb => h6 b (h3 b hb)⟩
 | tup _ _ ih1 ih =>
  intro G Os vs c hr
  match vs, hr with
  | v :: vs, ⟨⟨ws, r1, r3⟩, r2⟩ =>
   obtain ⟨G1, Os1, h1, h2, h3⟩ := ih1 c r3
   obtain ⟨G2, Os2, h4, h5, h6⟩ := ih h1 (r2.mono h3)
   exact ⟨G2, Os2, h4, ⟨⟨ws, r1, h2.mono h6⟩, h5⟩, fun b hb => h6 b (h3 b hb)⟩
 | unb tk _ ih =>
  intro G Os vs c hr
  obtain ⟨O, os', c2⟩ := c.take tk
  obtain ⟨A, _, g2⟩ := c2.unbun
  exact ih g2 hr
 | sl tk hl hf _ ih1 ih =>
  intro G Os vs c hr
  match vs, hr with
  | v :: vs, ⟨⟨r1, _⟩, r2⟩ =>
   subst r1
   obtain ⟨O, os', c2⟩ := c.take tk
   have hrr := c2.own.1
   have hlen : _ = _ := hf.len
   simp only [List.length_map] at hlen
   obtain ⟨g1, ⟨g2, p, cap, g3⟩|⟨b, of, cap, rows, g2, g3, g4, g5, g6, g7, g8⟩⟩ := sl_of_own hrr hl
   ·obtain ⟨G1, Os1, h1, _, h3⟩ := ih1 (vs := []) c2.freeze (by rw [g2];trivial)
    obtain ⟨G2, Os2, h4, h5, h6⟩ := ih h1 (r2.mono fun b hb => h3 b (.inl hb))
    refine ⟨G2, Os2, h4, ⟨⟨by omega, .inl ⟨List.eq_nil_of_length_eq_zero (by rw [← hlen, g2];rfl), p, cap, g3⟩⟩, h5⟩, fun b hb => h6 b (h3 b (.inl hb))⟩
   ·obtain ⟨G1, Os1, h1, h2, h3⟩ := ih1 c2.freeze (RepLL.of g8).aggs
    obtain ⟨G2, Os2, h4, h5, h6⟩ := ih h1 (r2.mono fun b hb => h3 b (.inl hb))
    refine ⟨G2, Os2, h4, ⟨⟨by omega, .inr ⟨b, of, cap, rows, by rw [← hlen];exact g2, by omega, by omega, h6 _ (h3 _ g5), g6, g7, (RepLL.to (RepLL.unaggs h2) g8.sz).mono h6⟩⟩, h5⟩, fun b hb => h6 b (h3 b (.inl hb))⟩
theorem CallA.fx {P : Program} {f : FuncId} {asx : List AV} {own : List Res} {K : AV → List Res → Prop} {a : AV} (h : CallA P f asx own K) (hK : ∀ r o, K r o → FX o [r] [a] []) : CallA P f asx own fun q o => q = a ∧ o = [] :=
 ⟨fun hh G Os vs h1 h2 => (h.run hh G Os vs h1 h2).mono fun v' h' ⟨r, o, G', Os', hk, g1, g2⟩ => by
  obtain ⟨G2, Os2, k1, k2, k3⟩ := (hK r o hk).rep g2 (vs := [v']) ⟨g1, trivial⟩
  exact ⟨a, [], G2, Os2, ⟨rfl, rfl⟩, k2.1, k1⟩⟩
theorem FX.refl {o : List Res} : ∀ l : List AV, FX o l l o
 | [] => .nil
 | a :: l => .le (ALe.refl a) (FX.refl l)
theorem FX.rows {α β : Type} {r : α → Res} {f : α → List AV} {g : β → List AV} {φ : α → β} {o : List Res} : ∀ L : List α, (∀ x ∈ L, ∀ o', FX (r x :: o') (f x) (g (φ x)) o') → FX (L.map r ++ o) (L.map fun x => .agg (f x)) ((L.map φ).map fun y => .agg (g y)) o
 | [], _ => .nil
 | x :: L, hf => .agg (hf x (by simp) _) (FX.rows L fun y hy => hf y (by simp [hy]))
theorem Cl.fx {Γ : Cx} {c : Cls} {f : FuncId} {asx : List AV} (as' : List AV) {o own : List Res} {M : AV → List Res → Prop} (x : FX o asx as' own) (hc : Cl Γ c f as' own M) : Cl Γ c f asx o M := by
 refine ⟨fun {h0 G0 O0 h G Os vs} hp hr => ?_⟩
 obtain ⟨G1, Os1, k1, k2, k3⟩ := x.rep hp hr
 refine (hc.ok k1 k2).mono fun v h' ⟨g1, r, o', G', Os', g2, g3, g4, g5, g6⟩ => ?_
 exact ⟨g1, r, o', G', Os', g2, g3, g4, g5.mono k3, fun b hb => g6 b (k3 b hb)⟩
end Go.CF
namespace Go.CF
open Go
structure OX (o o' : List Res) : Prop where
 x : ∀ {h0 : Heap} {G0 O0 : Nat → Prop} {h : Heap} {G : Nat → Prop} {Os : List (Nat → Prop)}, HpOK h0 G0 O0 o h G Os → ∃ G' Os', HpOK h0 G0 O0 o' h G' Os' ∧ ∀ b, G b → G' b
theorem OX.trans {o o1 o2 : List Res} (a : OX o o1) (b : OX o1 o2) : OX o o2 := ⟨fun c => by
 obtain ⟨G1, Os1, c1, g1⟩ := a.x c
 obtain ⟨G2, Os2, c2, g2⟩ := b.x c1
 exact ⟨G2, Os2, c2, fun b hb => g2 b (g1 b hb)⟩⟩
theorem OX.blk {o r1 r2 r3 : List Res} {b : Nat} {T : TypeId} {cs cs' : List AV} (tk : Take o (blkR b T cs) r1) (x : FX o cs cs' r2) (tk2 : Take r2 (blkR b T cs) r3) : OX o (blkR b T cs' :: r3) := ⟨fun {h0 G0 O0 h G Os} c => by
 obtain ⟨O, os', c2⟩ := c.take tk
 obtain ⟨ho, vs, hb, hr⟩ := c2.own.1
 obtain ⟨G', Os', k1, k2, k3⟩ := x.rep c hr.t
 obtain ⟨O2, os2, c3⟩ := k1.take tk2
 obtain ⟨ho2, vs2, hb2, hr2⟩ := c3.own.1
 have hv : vs2 = vs := by
  have := hb2.get.symm.trans hb.get
  simpa using this
 subst hv
 exact ⟨G', O2 :: os2, c3.perm ⟨⟨ho2, vs2, hb2, ⟨k2, hr.one⟩⟩, c3.own.2⟩ (List.Perm.refl _), k3⟩⟩
theorem CallA.own {P : Program} {f : FuncId} {asx : List AV} {own : List Res} {K K' : AV → List Res → Prop} (h : CallA P f asx own K) (hK : ∀ r o, K r o → ∃ o', OX o o' ∧ K' r o') : CallA P f asx own K' :=
 ⟨fun hh G Os vs h1 h2 => (h.run hh G Os vs h1 h2).mono fun v' h' ⟨r, o, G', Os', hk, g1, g2⟩ => by
  obtain ⟨o', ⟨x⟩, hk'⟩ := hK r o hk
  obtain ⟨G2, Os2, k1, k2⟩ := x g2
  exact ⟨r, o', G2, Os2, hk', AV.mono _ k2 g1, k1⟩⟩
theorem CallA.args {P : Program} {f : FuncId} {asx as' : List AV} {own : List Res} {K : AV → List Res → Prop} (w : RLe asx as') (h : CallA P f as' own K) : CallA P f asx own K :=
 ⟨fun hh G Os vs h1 h2 => h.run hh G Os vs (w.rep h1) h2⟩
theorem CallA.fxr {P : Program} {f : FuncId} {asx : List AV} {own : List Res} {K K' : AV → List Res → Prop} (h : CallA P f asx own K) (hK : ∀ r o, K r o → ∃ a o', FX o [r] [a] o' ∧ K' a o') : CallA P f asx own K' :=
 ⟨fun hh G Os vs h1 h2 => (h.run hh G Os vs h1 h2).mono fun v' h' ⟨r, o, G', Os', hk, g1, g2⟩ => by
  obtain ⟨a, o', x, hk'⟩ := hK r o hk
  obtain ⟨G2, Os2, k1, k2, k3⟩ := x.rep g2 (vs := [v']) ⟨g1, trivial⟩
  exact ⟨a, o', G2, Os2, hk', k2.1, k1⟩⟩
theorem CA.own {P : Program} {tt : Nat → Option TI} {en : Nat → Bool} {ok : PgOK P tt en} {T0 : Nat → Ord × (Nat → Cls)} {m0 : Nat} {rs : Array ResultVar} {K : AV → List Res → Prop} {h0 : Heap} {G0 O0 : Nat → Prop} {k : List KI} {e : EA} {o o' : List Res} {y : Code} (x : OX o o')
  (h : CA ⟨P, tt, en, ok, T0, m0, rs, K, h0, G0, O0, ⟨none⟩⟩ k y e o') : CA ⟨P, tt, en, ok, T0, m0, rs, K, h0, G0, O0, ⟨none⟩⟩ k y e o := by
 refine ⟨fun env hh G Os cn => ?_⟩
 obtain ⟨G', Os3, k1, k3⟩ := x.x cn.hp
 exact h.h env hh G' Os3 ⟨k1, fun q c hq => by
  obtain ⟨u, q1, q2⟩ := cn.env q c hq
  exact ⟨u, q1, AV.mono _ k3 q2⟩, FpOK.none rfl⟩
end Go.CF
namespace Go.CF
open Go
theorem FX.s1 {α : Type} {o rest own : List Res} {l l' : List AV} {v : Value} {T sz : Nat} {xs : List α} {f : α → List AV} (tk : Take o (arrR v T sz xs f) rest) (hl : xs.length ≤ 9223372036854775807) (h : FX rest l l' own) : FX o (.ow v :: l) (.sl sz xs f :: l') own := .sl tk hl (FX.refl _) h
theorem FX.k {o own : List Res} {a : AV} {l l' : List AV} (h : FX o l l' own) : FX o (a :: l) (a :: l') own := .le (ALe.refl a) h
theorem FX.kn {α : Type} {o own : List Res} {sz : Nat} {f : α → List AV} {l l' : List AV} (h : FX o l l' own) : FX o (.val (.slice none 0 0) :: l) (.sl sz [] f :: l') own := .le ALe.nil h
theorem Res.eq {a b : Res} (h : a.R = b.R) : a = b := by
 cases a;cases b;cases h;rfl
theorem arrR_eq {α β : Type} {v : Value} {T sz : Nat} {l : List α} {f : α → List AV} {m : List β} {g : β → List AV} (he : l.map f = m.map g) : arrR v T sz l f = arrR v T sz m g := Res.eq (by
 have hl : l.length = m.length := by have := congrArg List.length he;simpa using this
 funext h O G
 refine propext ⟨fun ⟨ho, rows, h1, h2⟩ => ⟨ho, rows, by rw [← hl];exact h1, h2.map he.symm⟩, fun ⟨ho, rows, h1, h2⟩ => ⟨ho, rows, by rw [hl];exact h1, h2.map he⟩⟩)
theorem ALe.nilow : ALe (.val (.slice none 0 0)) (.ow (.slice none 0 0)) := ⟨fun h => ⟨h, none, 0, 0, rfl⟩⟩
theorem OX.recell {o rest : List Res} {b : Nat} {T : TypeId} {cs : List AV} (tk : Take o (blkR b T cs) rest) (cs' : List AV) (w : RLe cs cs') : OX o (blkR b T cs' :: rest) := ⟨fun {h0 G0 O0 h G Os} c => by
 obtain ⟨O, os', c2⟩ := c.take tk
 obtain ⟨ho, vs, hb, hr⟩ := c2.own.1
 exact ⟨G, O :: os', c2.perm ⟨⟨ho, vs, hb, ⟨w.rep hr.t, hr.one⟩⟩, c2.own.2⟩ (List.Perm.refl _), fun _ h => h⟩⟩
theorem OX.nil {α : Type} (o : List Res) (T sz : Nat) (f : α → List AV) : OX o (arrR (.slice none 0 0) T sz ([] : List α) f :: o) := ⟨fun {h0 G0 O0 h G Os} c => ⟨G, _, HpOK.nilA (o := o) c T sz f, fun _ h => h⟩⟩
structure FlatV (a : AV) : Prop where
 h : ∀ {h : Heap} {G G' : Nat → Prop} {v : Value}, a.R h G v → a.R h G' v
structure FlatR (R : Res) : Prop where
 h : ∀ {h : Heap} {O G G' : Nat → Prop}, R.R h O G → R.R h O G'
theorem FlatV.val (v : Value) : FlatV (.val v) := ⟨fun h => h⟩
theorem FlatV.ow (v : Value) : FlatV (.ow v) := ⟨fun h => h⟩
inductive FlatL : List AV → Prop where
 | nil : FlatL []
 | cons {a : AV} {l : List AV} : FlatV a → FlatL l → FlatL (a :: l)
theorem FlatL.rep {h : Heap} {G G' : Nat → Prop} {l : List AV} (f : FlatL l) : ∀ {vs : List Value}, RepT h G vs l → RepT h G' vs l := by
 induction f with
 | nil => intro vs hr;match vs, hr with | [], _ => trivial
 | cons ha _ ih =>
  intro vs hr
  match vs, hr with
  | v :: vs, ⟨r1, r2⟩ => exact ⟨ha.h r1, ih r2⟩
theorem FlatR.arr {α : Type} {v : Value} {T sz : Nat} {l : List α} {f : α → List AV} (hf : ∀ x ∈ l, FlatL (f x)) : FlatR (arrR v T sz l f) := ⟨fun ⟨ho, rows, h1, h2⟩ => ⟨ho, rows, h1, ⟨h2.len, fun i r x g1 g2 => ⟨(hf x (List.mem_of_getElem? g2)).rep (h2.row i r x g1 g2).t, (h2.row i r x g1 g2).one⟩, h2.sz⟩⟩⟩
theorem FlatR.own {h : Heap} {G G' : Nat → Prop} : ∀ {rs : List Res} {os : List (Nat → Prop)}, (∀ R ∈ rs, FlatR R) → OwnL h G rs os → OwnL h G' rs os
 | [], [], _, _ => trivial
 | R :: rs, O :: os, hf, ⟨h1, h2⟩ => ⟨(hf R (by simp)).h h1, FlatR.own (fun R hR => hf R (by simp [hR])) h2⟩
 | [], _ :: _, _, h => h.elim
 | _ :: _, [], _, h => h.elim
theorem FlatR.bun {rs : List Res} (hf : ∀ R ∈ rs, FlatR R) : FlatR (bunR rs) := ⟨fun ⟨Os, h1, h2, h3⟩ => ⟨Os, FlatR.own hf h1, h2, h3⟩⟩
theorem Cl.lendO {Γ : Cx} {c : Cls} {o : List Res} {f : FuncId} {asx as' : List AV} {K : AV → List Res → Prop} {M : AV → List Res → Prop} (hc : CallA Γ.P f as' [] K) (hl : Lend o asx as') (hK : ∀ r own, K r own → FlatV r ∧ ∀ R ∈ own, FlatR R) (hm : ∀ r own, K r own → M r (own ++ o)) : Cl Γ c f asx o M := by
 refine ⟨fun {h0 G0 O0 h G Os vs} hp hr => ?_⟩
 have hin : HpOK h (fun b => G b ∨ U Os b) (U []) [] h (fun b => G b ∨ U Os b) [] :=
  ⟨trivial, fun b hb => ⟨hb.elim (fun h9 => (hp.g b h9).1) (fun ⟨O, hO, h9⟩ => (hp.o O hO b h9).1), .inl hb⟩, fun _ h => h, fun O hO => (by cases hO), List.Pairwise.nil, FPx.refl h⟩
 refine (hc.run h _ [] vs (hl.rep hp.own hr) hin).mono fun v h' ⟨r', own', G', Os', hk, g3, g4⟩ => ?_
 obtain ⟨f1, f2⟩ := hK _ _ hk
 have hst : Stp ([] : List Nat) h h' := ⟨g4.fp.size, fun b hb _ => g4.fp.same b (fun ⟨O, hO, _⟩ => by cases hO) hb⟩
 have hx : ∀ S, FPx S h h' := fun S => ⟨hst.size, fun b _ hb => hst.same b hb (by simp)⟩
 have hs := hp.fp.size
 have hs' := hst.size
 have hnew : ∀ O ∈ Os', ∀ b, O b → h.size ≤ b := fun O hO b hb => by
  rcases (g4.o O hO b hb).2.1 with ⟨O2, hO2, _⟩|h9
  ·cases hO2
  ·exact h9
 refine ⟨.inr hst, r', own' ++ o, G, Os' ++ Os, hm _ _ hk, f1.h g3, ⟨(FlatR.own f2 g4.own).app (OwnL.stp (fun O _ => hx _) hp.own), fun b hb => ⟨by have := (hp.g b hb).1;omega, (hp.g b hb).2.imp id fun q => ⟨q.1, q.2.eq (hst.same b (hp.g b hb).1 (by simp))⟩⟩, hp.g0, fun O hO b hb => ?_, List.pairwise_append.2 ⟨g4.d, hp.d, fun A hA B hB b ha hb => ?_⟩, ⟨by omega, fun b hb hl => ?_⟩⟩, hx G, fun _ h => h⟩
 ·rcases List.mem_append.1 hO with hO|hO
  ·have := hnew O hO b hb
   exact ⟨(g4.o O hO b hb).1, .inr (by omega), fun hg => by have := (hp.g b hg).1;omega⟩
  ·exact ⟨by have := (hp.o O hO b hb).1;omega, (hp.o O hO b hb).2⟩
 ·have := hnew A hA b ha
  have := (hp.o B hB b hb).1
  omega
 ·rw [hst.same b (by omega) (by simp)]
  exact hp.fp.same b hb hl
end Go.CF
