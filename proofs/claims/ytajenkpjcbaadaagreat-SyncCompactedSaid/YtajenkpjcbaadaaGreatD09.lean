/- Part 9 of the ground of this proof: what its texts say of the model, the program and the plain data; conditions: those that are named. -/
import Derived.Maps.RangeRun
import Derived.Test.YtajenkpjcbaadaaGreatD08
namespace Go.CF
open Go
def delL {β : Type} : List (List Int × β) → List Int → List (List Int × β)
 | [], _ => []
 | (k, u) :: r, xs => if k = xs then r else (k, u) :: delL r xs
theorem del_spec {β : Type} : ∀ (es : List MapEntry) (kvs : List (List Int × β)) (xs : List Int) (i : Nat), es.length = kvs.length →
  (fE es (kvs.map (·.1)) xs i = none ∧ delL kvs xs = kvs) ∨ ∃ j e, fE es (kvs.map (·.1)) xs i = some (i + j, e) ∧ j < es.length ∧ delL kvs xs = kvs.eraseIdx j
 | [], [], xs, i, _ => .inl ⟨rfl, rfl⟩
 | [], _ :: _, _, _, h => by simp at h
 | _ :: _, [], _, _, h => by simp at h
 | e :: es, (k, v) :: kvs, xs, i, h => by
  by_cases hx : xs = k
  ·subst hx
   exact .inr ⟨0, e.val, by simp [fE], by simp, by simp [delL]⟩
  ·have hx' : ¬ k = xs := fun e => hx e.symm
   rcases del_spec es kvs xs (i + 1) (by simpa using h) with ⟨h1, h2⟩|⟨j, e', h1, h2, h3⟩
   ·refine .inl ⟨?_, ?_⟩
    ·simp only [List.map_cons, fE, hx, if_false];exact h1
    ·simp only [delL, hx', if_false, h2]
   ·refine .inr ⟨j + 1, e', ?_, by simp;omega, ?_⟩
    ·simp only [List.map_cons, fE, hx, if_false, h1];congr 2;omega
    ·simp only [delL, hx', if_false, h3, List.eraseIdx_cons_succ]
theorem lookL_del {β : Type} : ∀ {kvs : List (List Int × β)}, (kvs.map (·.1)).Nodup → ∀ xs ys, lookL (delL kvs xs) ys = if ys = xs then none else lookL kvs ys
 | [], _, xs, ys => by simp [delL, lookL]
 | (k, u) :: r, hn, xs, ys => by
  obtain ⟨h1, h2⟩ := List.nodup_cons.1 hn
  have ih := lookL_del h2 xs ys
  simp only [delL]
  by_cases hk : k = xs
  ·subst hk
   simp only [if_true, lookL, List.find?_cons]
   by_cases h : k = ys
   ·subst h
    rw [if_pos rfl]
    cases hf : r.find? fun p => decide (p.1 = k) with
    | none => rfl
    | some p =>
     have g1 := List.mem_of_find?_eq_some hf
     have g2 : p.1 = k := by simpa using List.find?_some hf
     exact absurd (List.mem_map.2 ⟨p, g1, g2⟩) h1
   ·have h' : ¬ ys = k := fun e => h e.symm
    simp [h, h']
  ·simp only [hk, if_false, lookL, List.find?_cons] at ih ⊢
   by_cases h : k = ys
   ·subst h;simp [hk]
   ·simp only [h, decide_false];exact ih
section
variable {Γ : Cx} {k : List KI} {e : EA} {o : List Res} {N : NA} {c : Cls} {d : Tmp} {ty : TypeId} {x y z : Operand} {t u : TypeId}
/-! ### delete -/
structure Mde (Γ : Cx) (c : Cls) (t : TypeId) (x y : Operand) (tys : Array TypeId) (ty : TypeId) (e : EA) (o : List Res) (N : NA) (m key : AV) : Prop where
 h : tys[0]? = some t → evA e x = some m → evA e y = some key → isLoud c = true → SA Γ c none (.call { callee := .builtin .delete, args := #[x, y], argTypes := tys }) ty e o N
instance {tys : Array TypeId} : Sp (SA Γ c none (.call { callee := .builtin .delete, args := #[x, y], argTypes := tys }) ty e o N) (Rf (isLoud c = true) (Lk tys[0]? fun t => Lk (evA e x) fun m => Lk (evA e y) fun key => Mde Γ c t x y tys ty e o N m key)) := ⟨fun ⟨hc, _, h0, _, h1, _, h2, h⟩ => h.h h0 h1 h2 hc⟩
theorem ld_del {P : Program} {tt : Nat → Option TI} {en : Nat → Bool} (ok : PgOK P tt en) {n : Nat} {env : Env} {h : Heap} {K : Value → Heap → Prop} {p : Nat × Nat × TI} {b : Nat} {xs : List Int} {kv : Value} {es : Array MapEntry} {cl : Nat} {ks : List (List Int)} {tys : Array TypeId} (h0 : tys[0]? = some t) (hp : mpE tt t = some p) (hf : flatI P 4 p.1 = true) (hl : xs.length = P.cellsOf p.1) (hfv : FV P p.1 xs kv)
  (hx : ev env x = some (.map (some b))) (hy : ev env y = some kv) (hb : h[b]? = some (.map es cl)) (ho : KeysOK P p.1 es.toList ks)
  (kn : fE es.toList ks xs 0 = none → K (.tuple #[]) (h.setIfInBounds b (.map es cl)))
  (ks' : ∀ j u, fE es.toList ks xs 0 = some (j, u) → K (.tuple #[]) (h.setIfInBounds b (.map (es.eraseIdxIfInBounds j) cl))) : Ld P n (.call { callee := .builtin .delete, args := #[x, y], argTypes := tys }) ty env h K := by
 intro a w oo next Q ha hw hoo hty hn
 obtain ⟨ti, t1, t2, t3⟩ := mpE_spec hp
 have hmu := (ok.ok _ _ t1).map t2
 have hb' : w.heap[b]? = some (.map es cl) := hw ▸ hb
 have hfk := find_flat hf hfv hl es.toList ks ho w
 have hck : ∀ bb, (Instr.checkKey bb 10000 p.1 kv).run P w = .ok () w := fun bb => check_flat bb 4 p.1 hf 10000 (by decide) xs kv hl hfv w
 have fin : ∀ es', (Builtin.delete_ tys ty #[.map (some b), kv]).run P w = .ok (.tuple #[]) { w with heap := w.heap.setIfInBounds b (.map es' cl) } → K (.tuple #[]) (h.setIfInBounds b (.map es' cl)) → oo.upon P a next Q ((execOp a.eval oo).run P w) := by
  intro es' hr hk
  have hrun : (execOp a.eval (mkOp (.call { callee := .builtin .delete, args := #[x, y], argTypes := tys }) ty)).run P w = .ok (.value (.tuple #[])) { w with heap := w.heap.setIfInBounds b (.map es' cl) } := by
   simp [mkOp, execOp, resolve, invoke, builtin, ha.ev hx, ha.ev hy, hr]
  rw [exec_mk, hoo, hty, hrun]
  exact hn _ _ (Same.of_set hb' rfl rfl) (by simp only [hw];exact hk)
 unfold Oper.wp
 cases hfe : fE es.toList ks xs 0 with
 | none =>
  rw [hfe] at hfk
  refine fin es ?_ (kn hfe)
  simp [Builtin.delete_, h0, run_underlying hmu, MapKept.run_getObj_map hb', hck, hfk, MapKept.run_setObj_map _ hb', Result.andThen]
 | some q =>
  obtain ⟨j, u⟩ := q
  rw [hfe] at hfk
  refine fin _ ?_ (ks' j u hfe)
  simp [Builtin.delete_, h0, run_underlying hmu, MapKept.run_getObj_map hb', hck, hfk, MapKept.run_setObj_map _ hb', Result.andThen]
theorem erase_map {α γ : Type} (f : α → γ) : ∀ (l : List α) (j : Nat), (l.eraseIdx j).map f = (l.map f).eraseIdx j
 | [], _ => by simp
 | _ :: _, 0 => by simp
 | a :: l, j + 1 => by simp [erase_map f l j]
theorem nodup_erase {l : List Nat} (h : l.Nodup) (j : Nat) : (l.eraseIdx j).Nodup := (List.eraseIdx_sublist l j).nodup h
instance {b : Nat} {key : AV} {tys : Array TypeId} : Sp (Mde Γ c t x y tys ty e o N (.val (.map (some b))) key) (Lk (mpE Γ.tt t) fun p => TkM Γ.P o b fun kt kvs f rest => Ky key fun xs => Rf (kt = p.1) (Kf (kyOK Γ.P kt xs.length = true) (N e (mapR Γ.P b kt (delL kvs xs) f :: rest)))) := ⟨fun ⟨p, hp, β, kt, kvs, f, rest, tk, xs, ⟨hkt, hky, hn⟩, h2⟩ => ⟨fun h0 ha hb hc => ⟨fun env hh G Os cn => by
 subst hkt
 obtain ⟨m, g1, rfl⟩ := cn.get ha
 obtain ⟨kv, g2, r2⟩ := cn.get hb
 obtain ⟨hf, hl, hfv⟩ := kyOK_fv hky h2 r2
 obtain ⟨O, Os', cn2⟩ := cn.take tk
 obtain ⟨⟨ho, es, cl, hb0, hko, hvs, hsm⟩, _⟩ := cn2.hp.own
 have hlt := (Array.getElem?_eq_some_iff.1 hb0).1
 have hlen : es.toList.length = kvs.length := by have := hko.len;simpa using this
 have fin : ∀ es' kvs', KeysOK Γ.P p.1 es'.toList (kvs'.map (·.1)) → (∀ (i : Nat) (en : MapEntry) (q : List Int × β), es'.toList[i]? = some en → kvs'[i]? = some q → (f q.2).R hh G en.val) → kvs' = delL kvs xs → Stmp es'.toList cl → CN Γ N env (hh.setIfInBounds b (.map es' cl)) := by
  intro es' kvs' hk' hv2 e2 hsm'
  subst e2
  have hx : FPx (fun y => ¬ O y) hh (hh.setIfInBounds b (.map es' cl)) := ⟨by simp, fun y hy hl => by rw [Array.getElem?_setIfInBounds, if_neg (fun e9 => hy ((ho y).2 e9.symm))]⟩
  have hg : FPx G hh (hh.setIfInBounds b (.map es' cl)) := hx.mono fun y hy hoy => (cn2.hp.o O (by simp) y hoy).2.2 hy
  exact CN.mk (cn2.upd (R' := mapR Γ.P b p.1 (delL kvs xs) f) (O' := O) hx (fun y hy => ⟨by have := (cn2.hp.o O (by simp) y hy).1;simpa using this, .inl hy⟩) ⟨ho, es', cl, by simp [hlt], hk', fun i en q h7 h8 => AV.stp _ hg (hv2 i en q h7 h8), hsm'⟩) hn
 refine .ofLd hc (ld_del Γ.ok h0 hp hf hl hfv g1 g2 hb0 hko (fun hfe => ?_) (fun j u hfe => ?_))
 ·rcases del_spec es.toList kvs xs 0 hlen with ⟨_, q2⟩|⟨j, en, q1, _⟩
  ·exact fin es kvs hko hvs q2.symm hsm
  ·rw [hfe] at q1;cases q1
 ·rcases del_spec es.toList kvs xs 0 hlen with ⟨q1, _⟩|⟨j', en, q1, q2, q3⟩
  ·rw [hfe] at q1;cases q1
  ·rw [hfe] at q1
   simp only [Nat.zero_add, Option.some.injEq, Prod.mk.injEq] at q1
   obtain ⟨rfl, _⟩ := q1
   have hel : (es.eraseIdxIfInBounds j).toList = es.toList.eraseIdx j := by
    unfold Array.eraseIdxIfInBounds
    rw [dif_pos (by simpa using q2)]
    simp
   refine fin _ (kvs.eraseIdx j) ⟨by rw [hel, List.length_map, List.length_eraseIdx, List.length_eraseIdx, hlen], fun i e1 k h7 h8 => ?_⟩ (fun i e1 q h7 h8 => ?_) q3.symm ⟨fun e1 h7 => ?_, ?_⟩
   ·rw [hel, List.getElem?_eraseIdx] at h7
    rw [erase_map, List.getElem?_eraseIdx] at h8
    split at h7 <;> rename_i hij
    ·rw [if_pos hij] at h8;exact hko.key i e1 k h7 h8
    ·rw [if_neg hij] at h8;exact hko.key _ e1 k h7 h8
   ·rw [hel, List.getElem?_eraseIdx] at h7
    rw [List.getElem?_eraseIdx] at h8
    split at h7 <;> rename_i hij
    ·rw [if_pos hij] at h8;exact hvs i e1 q h7 h8
    ·rw [if_neg hij] at h8;exact hvs _ e1 q h7 h8
   ·rw [hel] at h7
    exact hsm.1 e1 (List.mem_of_mem_eraseIdx h7)
   ·rw [hel, erase_map];exact nodup_erase hsm.2 j⟩⟩⟩
/-! ### Ranges -/
def AV.top : AV := ⟨fun _ _ _ => True, fun _ h => h, fun _ h => h⟩
structure Rng (Γ : Cx) (c : Cls) (d : Tmp) (t : TypeId) (x : Operand) (ty : TypeId) (e : EA) (o : List Res) (N : NA) (m : AV) : Prop where
 h : evA e x = some m → isLoud c = true → SA Γ c (some d) (.range t x) ty e o N
instance : Sp (SA Γ c (some d) (.range t x) ty e o N) (Rf (isLoud c = true) (Lk (evA e x) fun m => Rng Γ c d t x ty e o N m)) := ⟨fun ⟨hc, _, h1, h⟩ => h.h h1 hc⟩
theorem left_perm {β : Type} {es : List MapEntry} {kvs : List (List Int × β)} (hn : (es.map (·.born)).Nodup) (hl : es.length = kvs.length) (seen : Array Nat) {i : Nat} {e : MapEntry} {p : List Int × β} (he : es[i]? = some e) (hp : kvs[i]? = some p) (hs : seen.contains e.born = false) :
  (p :: ((es.zip kvs).filter fun q => !(seen.push e.born).contains q.1.born).map (·.2)).Perm (((es.zip kvs).filter fun q => !seen.contains q.1.born).map (·.2)) := by
 induction es generalizing kvs i with
 | nil => simp at he
 | cons a es ih =>
  match kvs, hl with
  | q :: kvs, hl =>
   obtain ⟨h1, h2⟩ := List.nodup_cons.1 hn
   rw [List.zip_cons_cons]
   cases i with
   | zero =>
    simp only [List.getElem?_cons_zero, Option.some.injEq] at he hp
    subst he;subst hp
    have hrest : (es.zip kvs).filter (fun q => !(seen.push a.born).contains q.1.born) = (es.zip kvs).filter fun q => !seen.contains q.1.born := by
     refine List.filter_congr fun q hq => ?_
     have hne : q.1.born ≠ a.born := fun h => h1 (List.mem_map.2 ⟨q.1, (List.of_mem_zip hq).1, h⟩)
     have : (seen.push a.born).contains q.1.born = seen.contains q.1.born := by
      rw [Bool.eq_iff_iff];simp [hne]
     rw [this]
    rw [List.filter_cons_of_neg (by simp), List.filter_cons_of_pos (by simp only [hs, Bool.not_false]), hrest, List.map_cons]
   | succ i =>
    simp only [List.getElem?_cons_succ] at he hp
    have ih' := ih h2 (by simpa using hl) he hp
    have hne : a.born ≠ e.born := fun h => h1 (List.mem_map.2 ⟨e, List.mem_of_getElem? he, h.symm⟩)
    have hc : (seen.push e.born).contains a.born = seen.contains a.born := by
     rw [Bool.eq_iff_iff];simp [hne]
    by_cases hsa : seen.contains a.born = true
    ·rw [List.filter_cons_of_neg (by simp only [hc, hsa];simp), List.filter_cons_of_neg (by simp only [hsa];simp)]
     exact ih'
    ·have hsa : seen.contains a.born = false := by simpa using hsa
     rw [List.filter_cons_of_pos (by simp only [hc, hsa];simp), List.filter_cons_of_pos (by simp only [hsa];simp), List.map_cons, List.map_cons]
     exact (List.Perm.swap _ _ _).trans (ih'.cons q)
structure Nxi (Γ : Cx) (c : Cls) (d : Tmp) (x : Operand) (ty : TypeId) (e : EA) (o : List Res) (N : NA) (m : AV) : Prop where
 h : evA e x = some m → isLoud c = true → SA Γ c (some d) (.next x false) ty e o N
instance : Sp (SA Γ c (some d) (.next x false) ty e o N) (Rf (isLoud c = true) (Lk (evA e x) fun m => Nxi Γ c d x ty e o N m)) := ⟨fun ⟨hc, _, h1, h⟩ => h.h h1 hc⟩
structure NxK {β : Type} (rem : List (List Int × β)) (X : List Int × β → List (List Int × β) → Prop) (Y : Prop) : Prop where
 x : ∀ p rem', (p :: rem').Perm rem → X p rem'
 y : rem = [] → Y
end
end Go.CF
namespace Go.CF
open Go
section
variable {Γ : Cx} {k : List KI} {e : EA} {o : List Res} {N : NA} {c : Cls} {d : Tmp} {ty : TypeId} {x y z : Operand} {t u : TypeId}
def itcR (P : Program) {β : Type} (b r : Nat) (kt : TypeId) (kvs rem : List (List Int × β)) (f : β → AV) (cur : Option (List Int × β)) : Res :=
  ⟨fun h O G => (∀ x, O x ↔ x = b ∨ x = r) ∧ r ≠ b ∧ ∃ es clock seen c0, h[b]? = some (.map es clock) ∧ KeysOK P kt es.toList (kvs.map (·.1)) ∧ (∀ (i : Nat) (e : MapEntry) (p : List Int × β), es.toList[i]? = some e → kvs[i]? = some p → (f p.2).R h G e.val) ∧ Stmp es.toList clock ∧
      h[r]? = some (.mapIter (some b) clock seen c0) ∧ clock ≤ c0 ∧ (((es.toList.zip kvs).filter fun p => !seen.contains p.1.born).map (·.2)).Perm rem ∧ (∀ p, cur = some p → ∃ (i : Nat) (en : MapEntry) (s0 : Array Nat), es.toList[i]? = some en ∧ kvs[i]? = some p ∧ seen = s0.push en.born ∧ c0 = clock),
   by rintro h h' O G x ⟨ho, hne, es, cl, seen, c0, h1, h2, h3, h4, h5, h6⟩;exact ⟨ho, hne, es, cl, seen, c0, (x.same b (.inl ((ho b).2 (.inl rfl))) (Array.getElem?_eq_some_iff.1 h1).1).trans h1, h2, fun i e p g1 g2 => (f p.2).stp (x.mono fun _ => .inr) (h3 i e p g1 g2), h4, (x.same r (.inl ((ho r).2 (.inr rfl))) (Array.getElem?_eq_some_iff.1 h5).1).trans h5, h6⟩,
   by rintro h O G G' x ⟨ho, hne, es, cl, seen, c0, h1, h2, h3, h4, h5, h6⟩;exact ⟨ho, hne, es, cl, seen, c0, h1, h2, fun i e p g1 g2 => (f p.2).mono x (h3 i e p g1 g2), h4, h5, h6⟩,
   by
    rintro h O G ⟨ho, hne, es, cl, seen, c0, h1, h2, h3, h4, h5, h6⟩ y hy
    rcases (ho y).1 hy with rfl|rfl
    · exact NC.of h1 rfl
    · exact NC.of h5 rfl⟩
structure TkJ (P : Program) (o : List Res) (r : Nat) (k : ∀ {β : Type}, Nat → TypeId → List (List Int × β) → List (List Int × β) → (β → AV) → Option (List Int × β) → List Res → Prop) : Prop where
 ok : ∃ (β : Type) (b : Nat) (kt : TypeId) (kvs rem : List (List Int × β)) (f : β → AV) (cur : Option (List Int × β)) (rest : List Res), Take o (itcR P b r kt kvs rem f cur) rest ∧ k b kt kvs rem f cur rest
theorem TkJ.r {β : Type} {P : Program} {o rest : List Res} {b r : Nat} {k : ∀ {β : Type}, Nat → TypeId → List (List Int × β) → List (List Int × β) → (β → AV) → Option (List Int × β) → List Res → Prop} {kt : TypeId} {kvs rem : List (List Int × β)} {f : β → AV} {cur : Option (List Int × β)} (h : Take o (itcR P b r kt kvs rem f cur) rest) (hk : k b kt kvs rem f cur rest) : TkJ P o r k := ⟨β, b, kt, kvs, rem, f, cur, rest, h, hk⟩
instance (priority := 1100) {b : Nat} : Sp (Rng Γ c d t x ty e o N (.val (.map (some b)))) (Lk (mpE Γ.tt t) fun p => TkM Γ.P o b fun kt kvs f rest => All fun r : Nat => N ((d, .val (.pointer (some ⟨r, 0, none⟩))) :: e) (itcR Γ.P b r kt kvs kvs f none :: rest)) := ⟨fun ⟨p, hp, β, kt, kvs, f, rest, tk, hn⟩ => ⟨fun ha hc => ⟨fun env hh G Os cn => by
 obtain ⟨m, g1, rfl⟩ := cn.get ha
 obtain ⟨O, Os', cn2⟩ := cn.take tk
 obtain ⟨⟨ho, es, cl, hb0, hko, hvs, hsm⟩, _⟩ := cn2.hp.own
 have hlt := (Array.getElem?_eq_some_iff.1 hb0).1
 obtain ⟨ti, t1, t2, t3⟩ := mpE_spec hp
 have hmu := (Γ.ok.ok _ _ t1).map t2
 refine .ofLd hc fun a w oo next Q ha' hw hoo hty hn' => ?_
 have hb' : w.heap[b]? = some (.map es cl) := hw ▸ hb0
 have hrun : (execOp a.eval (mkOp (.range t x) ty)).run Γ.P w = .ok (.value (.pointer (some ⟨w.heap.size, 0, none⟩))) (w.alloc (.mapIter (some b) cl #[] cl)) := by
  simp [mkOp, execOp, ha'.ev g1, Go.run_range_map w t p.1 p.2.1 b es cl hmu hb']
 unfold Oper.wp
 rw [exec_mk, hoo, hty, hrun]
 refine hn' _ _ (Same.of_push rfl) ?_
 simp only [World.alloc, hw]
 have hx : FPx (fun _ => True) hh (hh.push (Obj.mapIter (some b) cl #[] cl)) := ⟨by simp, fun y _ hl => by rw [Array.getElem?_push, if_neg (by omega)]⟩
 have hfil : ((es.toList.zip kvs).filter fun p => !(#[] : Array Nat).contains p.1.born).map (·.2) = kvs := by
  rw [List.filter_eq_self.2 (fun _ _ => by simp), List.map_snd_zip]
  have := hko.len;simp at this;simp;omega
 have cn3 := (cn2.upd (R' := itcR Γ.P b hh.size kt kvs kvs f none) (O' := fun y => O y ∨ y = hh.size) (h' := hh.push (Obj.mapIter (some b) cl #[] cl)) (hx.mono fun _ _ => trivial) (fun y hy => by
   rcases hy with hy|rfl
   ·have := (cn2.hp.o O (by simp) y hy).1
    exact ⟨by simp;omega, .inl hy⟩
   ·exact ⟨by simp, .inr (Nat.le_refl _)⟩)
  ⟨fun y => or_congr (ho y) Iff.rfl, by omega, es, cl, #[], cl, by rw [Array.getElem?_push, if_neg (by omega)];exact hb0, hko, fun i en q h7 h8 => AV.stp _ (hx.mono fun _ _ => trivial) (hvs i en q h7 h8), hsm, by simp, Nat.le_refl _, by rw [hfil], fun _ hp => by cases hp⟩)
 exact CN.mk (cn3.put d (a := .val _) rfl) (hn.ok hh.size)⟩⟩⟩
instance (priority := 1100) {r : Nat} : Sp (Nxi Γ c d x ty e o N (.val (.pointer (some ⟨r, 0, none⟩)))) (TkJ Γ.P o r fun b kt kvs rem f cur rest => NxK rem (fun p rem' => N ((d, .tup [.val (.bool true), .top, f p.2]) :: e) (itcR Γ.P b r kt kvs rem' f (some p) :: rest)) (N ((d, .tup [.val (.bool false)]) :: e) (itcR Γ.P b r kt kvs rem f cur :: rest))) := ⟨fun ⟨β, b, kt, kvs, rem, f, cur, rest, tk, hx, hy⟩ => ⟨fun ha hc => ⟨fun env hh G Os cn => by
 obtain ⟨m, g1, rfl⟩ := cn.get ha
 obtain ⟨O, Os', cn2⟩ := cn.take tk
 obtain ⟨⟨ho, hne, es, cl, seen, c0, hb0, hko, hvs, hsm, hr0, hc0, hpm, _⟩, _⟩ := cn2.hp.own
 have hlen : es.toList.length = kvs.length := by have := hko.len;simpa using this
 have hrl := (Array.getElem?_eq_some_iff.1 hr0).1
 refine .ofLd hc fun a w oo next Q ha' hw hoo hty hn' => ?_
 have hb' : w.heap[b]? = some (.map es cl) := hw ▸ hb0
 have hr' : w.heap[r]? = some (.mapIter (some b) cl seen c0) := hw ▸ hr0
 unfold Oper.wp
 rw [exec_mk, hoo, hty]
 rcases Go.run_next_at (P := Γ.P) w ty r b cl c0 seen es cl hr' hb' hsm.1 hc0 with ⟨h0, hrun⟩|⟨en, hen, w1, hw1, hrun⟩
 ·have hrun2 : (execOp a.eval (mkOp (.next x false) ty)).run Γ.P w = .ok (.value (.tuple #[.bool false])) w := by
   simp [mkOp, execOp, ha'.ev g1, hrun]
  rw [hrun2]
  have hrem : rem = [] := by
   have h1 : (es.toList.zip kvs).filter (fun p => !seen.contains p.1.born) = [] := List.filter_eq_nil_iff.2 fun p hp h9 => by
    have h2 : p.1 ∈ (leftOf es seen).toList := by
     unfold leftOf
     rw [Array.toList_filter, List.mem_filter]
     exact ⟨(List.of_mem_zip hp).1, h9⟩
    have h3 : (leftOf es seen).toList.length = 0 := by simpa using h0
    rw [List.eq_nil_of_length_eq_zero h3] at h2
    cases h2
   rw [h1] at hpm
   exact List.nil_perm.1 hpm
  refine hn' _ _ (Same.refl w) ?_
  rw [hw]
  exact CN.mk (cn2.put d (a := .tup [.val (.bool false)]) ⟨[_], rfl, rfl, trivial⟩) (hy hrem)
 ·have hrun2 : (execOp a.eval (mkOp (.next x false) ty)).run Γ.P w = .ok (.value (.tuple #[.bool true, en.key, en.val])) (ChangeMaps.setBlock w1 r (.mapIter (some b) cl (seen.push en.born) cl)) := by
   simp [mkOp, execOp, ha'.ev g1, hrun]
  rw [hrun2]
  have hw1h : w1.heap = hh := by rcases hw1 with rfl|rfl <;> exact hw
  obtain ⟨hem, hes⟩ : en ∈ es.toList ∧ seen.contains en.born = false := by
   unfold leftOf at hen
   rw [Array.toList_filter, List.mem_filter] at hen
   exact ⟨hen.1, by simpa using hen.2⟩
  obtain ⟨i, hi⟩ := List.getElem?_of_mem hem
  have hil := (List.getElem?_eq_some_iff.1 hi).1
  obtain ⟨p, hp⟩ : ∃ p, kvs[i]? = some p := ⟨_, List.getElem?_eq_getElem (by omega)⟩
  have hlp := left_perm hsm.2 hlen seen hi hp hes
  refine hn' _ _ (by rcases hw1 with rfl|rfl <;> exact Same.of_set hr' rfl rfl) ?_
  have hheap : (ChangeMaps.setBlock w1 r (.mapIter (some b) cl (seen.push en.born) cl)).heap = hh.setIfInBounds r (.mapIter (some b) cl (seen.push en.born) cl) := by
   simp only [ChangeMaps.setBlock, hw1h]
  rw [hheap]
  have hxo : FPx (fun y => ¬ O y) hh (hh.setIfInBounds r (.mapIter (some b) cl (seen.push en.born) cl)) := ⟨by simp, fun y hy hl => by rw [Array.getElem?_setIfInBounds, if_neg (fun e9 => hy ((ho y).2 (.inr e9.symm)))]⟩
  have hg : FPx G hh (hh.setIfInBounds r (.mapIter (some b) cl (seen.push en.born) cl)) := hxo.mono fun y hy hoy => (cn2.hp.o O (by simp) y hoy).2.2 hy
  have cn3 := cn2.upd (R' := itcR Γ.P b r kt kvs (((es.toList.zip kvs).filter fun q => !(seen.push en.born).contains q.1.born).map (·.2)) f (some p)) (O' := O) hxo (fun y hy => ⟨by have := (cn2.hp.o O (by simp) y hy).1;simpa using this, .inl hy⟩)
   ⟨ho, hne, es, cl, seen.push en.born, cl, by rw [Array.getElem?_setIfInBounds, if_neg hne];exact hb0, hko, fun i en q h7 h8 => AV.stp _ hg (hvs i en q h7 h8), hsm, by simp [hrl], Nat.le_refl _, List.Perm.refl _, fun p' hp' => by cases hp';exact ⟨i, en, seen, hi, hp, rfl, rfl⟩⟩
  exact CN.mk (cn3.put d (a := .tup [.val (.bool true), .top, f p.2]) ⟨[_, _, _], rfl, rfl, trivial, AV.stp _ hg (hvs i en p hi hp), trivial⟩) (hx p _ (hlp.trans hpm))⟩⟩⟩
theorem HpOK.itcDone {h0 : Heap} {G0 O0 : Nat → Prop} {h : Heap} {G : Nat → Prop} {Os : List (Nat → Prop)} {P : Program} {β : Type} {b r : Nat} {kt : TypeId} {kvs rem : List (List Int × β)} {f : β → AV} {cur : Option (List Int × β)} {rest : List Res} (tk : Take o (itcR P b r kt kvs rem f cur) rest) (c : HpOK h0 G0 O0 o h G Os) : ∃ Os', HpOK h0 G0 O0 (mapR P b kt kvs f :: rest) h G Os' := by
 obtain ⟨O, Os', c2⟩ := c.take tk
 obtain ⟨⟨ho, hne, es, cl, seen, c0, hb0, hko, hvs, hsm, _⟩, hrest⟩ := c2.own
 have hd := List.pairwise_cons.1 c2.d
 refine ⟨(fun y => y = b) :: Os', ⟨⟨fun y => Iff.rfl, es, cl, hb0, hko, hvs, hsm⟩, hrest⟩, c2.g, c2.g0, fun X hX y hy => ?_, List.pairwise_cons.2 ⟨fun B hB y hy hyB => ?_, hd.2⟩, c2.fp⟩
 ·rcases List.mem_cons.1 hX with rfl|hX
  ·exact c2.o O (by simp) y ((ho y).2 (.inl hy))
  ·exact c2.o X (by simp [hX]) y hy
 ·exact hd.1 B hB y ((ho y).2 (.inl hy)) hyB
theorem OX.itc {P : Program} {β : Type} {b r : Nat} {kt : TypeId} {kvs rem : List (List Int × β)} {f : β → AV} {cur : Option (List Int × β)} {rest : List Res} (tk : Take o (itcR P b r kt kvs rem f cur) rest) : OX o (mapR P b kt kvs f :: rest) := ⟨fun {h0 G0 O0 h G Os} c => by
 obtain ⟨Os', h1⟩ := HpOK.itcDone tk c
 exact ⟨G, Os', h1, fun _ h => h⟩⟩

structure Ent (Γ : Cx) (c : Cls) (d : Tmp) (x : Operand) (ty : TypeId) (e : EA) (o : List Res) (N : NA) (m : AV) : Prop where
 h : evA e x = some m → isLoud c = true → SA Γ c (some d) (.entry x) ty e o N
instance : Sp (SA Γ c (some d) (.entry x) ty e o N) (Rf (isLoud c = true) (Lk (evA e x) fun m => Ent Γ c d x ty e o N m)) := ⟨fun ⟨hc, _, h1, h⟩ => h.h h1 hc⟩
structure TkE (P : Program) (o : List Res) (r : Nat) (k : ∀ {β : Type}, (β → AV) → (List Int × β) → Prop) : Prop where
 ok : ∃ (β : Type) (b : Nat) (kt : TypeId) (kvs rem : List (List Int × β)) (f : β → AV) (p : List Int × β) (rest : List Res), Take o (itcR P b r kt kvs rem f (some p)) rest ∧ k f p
theorem TkE.r {β : Type} {P : Program} {o rest : List Res} {b r : Nat} {k : ∀ {β : Type}, (β → AV) → (List Int × β) → Prop} {kt : TypeId} {kvs rem : List (List Int × β)} {f : β → AV} {p : List Int × β} (h : Take o (itcR P b r kt kvs rem f (some p)) rest) (hk : k f p) : TkE P o r k := ⟨β, b, kt, kvs, rem, f, p, rest, h, hk⟩
instance {r : Nat} : Sp (Ent Γ c d x ty e o N (.val (.pointer (some ⟨r, 0, none⟩)))) (TkE Γ.P o r fun f p => N ((d, .tup [.top, f p.2]) :: e) o) := ⟨fun ⟨β, b, kt, kvs, rem, f, p, rest, tk, hn⟩ => ⟨fun ha hc => ⟨fun env hh G Os cn => by
 obtain ⟨m, g1, rfl⟩ := cn.get ha
 obtain ⟨O, Os', cn2⟩ := cn.take tk
 obtain ⟨⟨ho, hne, es, cl, seen, c0, hb0, hko, hvs, hsm, hr0, hc0, hpm, hcur⟩, _⟩ := cn2.hp.own
 obtain ⟨i, en, s0, h1, h2, rfl, rfl⟩ := hcur p rfl
 refine .ofLd hc fun a w oo next Q ha' hw hoo hty hn' => ?_
 have hrun := run_entry_at (P := Γ.P) w r b _ s0 es _ en (hw ▸ hr0) (hw ▸ hb0) (List.mem_of_getElem? h1) hsm.2
 have hrun2 : (execOp a.eval (mkOp (.entry x) ty)).run Γ.P w = .ok (.value (.tuple #[en.key, en.val])) w := by
  simp [mkOp, execOp, ha'.ev g1, hrun]
 unfold Oper.wp
 rw [exec_mk, hoo, hty, hrun2]
 refine hn' _ _ (Same.refl w) ?_
 rw [hw]
 exact CN.mk (cn.put d (a := .tup [.top, f p.2]) ⟨[_, _], rfl, trivial, hvs i en p h1 h2, trivial⟩) hn⟩⟩⟩
instance {b : Nat} : Sp (Ap1 Γ c d (.call { callee := .builtin .len, args := #[x], argTypes := #[t] }) ty e o N x (.val (.map (some b)))) (Rf (isLoud c = true) (Lk (mpE Γ.tt t) fun _ => TkM Γ.P o b fun _ kvs _ _ => N ((d, .val (.int .i64 (kvs.length : Int))) :: e) o)) := ⟨fun ⟨hc, p, hp, β, kt, kvs, f, rest, tk, hn⟩ => ⟨fun ha => ⟨fun env hh G Os cn => by
 obtain ⟨m, g1, rfl⟩ := cn.get ha
 obtain ⟨O, Os', cn2⟩ := cn.take tk
 obtain ⟨⟨ho, es, cl, hb0, hko, hvs, hsm⟩, _⟩ := cn2.hp.own
 obtain ⟨ti, t1, t2, t3⟩ := mpE_spec hp
 have hmu := (Γ.ok.ok _ _ t1).map t2
 have hlen : es.size = kvs.length := by have := hko.len;simpa using this
 refine .ofLd hc fun a w oo next Q ha' hw hoo hty hn' => ?_
 have hb' : w.heap[b]? = some (.map es cl) := hw ▸ hb0
 have hrun : (execOp a.eval (mkOp (.call { callee := .builtin .len, args := #[x], argTypes := #[t] }) ty)).run Γ.P w = .ok (.value (.int .i64 (kvs.length : Int))) w := by
  simp [mkOp, execOp, resolve, invoke, builtin, ha'.ev g1, Builtin.len_, run_underlying hmu, getObj, Sem.run_bind, Sem.run, hb', Result.andThen, goInt, hlen]
 unfold Oper.wp
 rw [exec_mk, hoo, hty, hrun]
 refine hn' _ _ (Same.refl w) ?_
 rw [hw]
 exact CN.mk (cn.put d (a := .val _) rfl) hn⟩⟩⟩
end
end Go.CF
namespace Go.Proofs.YtajenkpjcbaadaaGreat
open Go Go.CF
set_option maxRecDepth 20000
def Nm (x y : MkS) : Prop := x.rep = y.rep ∧ x.num = y.num
def MksTo (t : TblS) (l : List MkS) (n : Nat) : Prop := ∀ i x, i < n → l[i]? = some x → RightK t x ∧ (∀ j y, j < i → l[j]? = some y → ¬ Nm y x) ∧ (∀ y, 0 < i → l[i - 1]? = some y → ¬ LtK x y)
def GenG (t : TblS) (g : MgS) : Prop := (g.drop = true → t.kind = 3) ∧ ¬ (g.put = true ∧ isReg t.kind) ∧ ¬ (t.kind = 4 ∧ 1 < g.marks.length) ∧ g.marks.length ≤ 1024
def ValG (t : TblS) (g : MgS) : Prop := GenG t g ∧ MksTo t g.marks g.marks.length
noncomputable instance (t : TblS) (g : MgS) : Decidable (ValG t g) := Classical.propDecidable _
def namesL (l : List MkS) : List (List Int × Bool) := l.map fun x => ([x.rep, x.num], true)
def HasNm (l : List MkS) (x : MkS) : Prop := ∃ y ∈ l, Nm y x
noncomputable instance (l : List MkS) (x : MkS) : Decidable (HasNm l x) := Classical.propDecidable _
theorem names_look (l : List MkS) (x : MkS) : lookL (namesL l) [x.rep, x.num] = if HasNm l x then some true else none := by
 induction l with
 | nil => simp [namesL, lookL, HasNm]
 | cons a l ih =>
  simp only [namesL, lookL, List.map_cons, List.find?_cons] at ih ⊢
  by_cases h : Nm a x
  ·rw [if_pos ⟨a, by simp, h⟩]
   simp [h.1, h.2]
  ·have h2 : decide ([a.rep, a.num] = [x.rep, x.num]) = false := by simpa [Nm] using h
   rw [h2]
   rw [ih]
   have e : HasNm l x ↔ HasNm (a :: l) x := by simp [HasNm, h]
   by_cases hh : HasNm l x
   ·rw [if_pos hh, if_pos (e.1 hh)]
   ·rw [if_neg hh, if_neg (fun h9 => hh (e.2 h9))]
theorem names_app {l : List MkS} {i : Nat} {x : MkS} (hx : l[i]? = some x) (hn : lookL (namesL (l.take i)) [x.rep, x.num] = none) : updL (namesL (l.take i)) [x.rep, x.num] true = namesL (l.take (i + 1)) := by
 rw [updL_none _ _ _ hn, List.take_add_one, hx];simp [namesL]
theorem mksTo_zero (t : TblS) (l : List MkS) : MksTo t l 0 := fun i x h => by omega
theorem mksTo_succ {t : TblS} {l : List MkS} {i : Nat} {x : MkS} (hx : l[i]? = some x) (h : MksTo t l i) (h1 : RightK t x) (h2 : ∀ j y, j < i → l[j]? = some y → ¬ Nm y x) (h3 : ∀ y, 0 < i → l[i - 1]? = some y → ¬ LtK x y) : MksTo t l (i + 1) := by
 intro k y hk hy
 by_cases hki : k = i
 ·subst hki;rw [hx] at hy;cases hy;exact ⟨h1, h2, h3⟩
 ·exact h k y (by omega) hy
set_option maxHeartbeats 4000000 in
theorem valid34_p (t : TblS) (g : MgS) : CallP Tryz.prog 158 [.agg (tblC t), .agg (mgC g)] (bl (decide (ValG t g))) := by
  obtain ⟨put, drop, l⟩ := g
  have no : ∀ {p : Prop}, (p → False) → ¬ p := fun h => h
  refine CallA.of pg ord158 Tryz.func158 rfl Tryz.ntmps158 Tryz.results158 rfl fun h0 G0 O0 => ?_
  by_cases hg : GenG t ⟨put, drop, l⟩
  · have g1 : drop = true → t.kind = 3 := hg.1
    have g2 : put = true → ¬ isReg t.kind := fun h h' => hg.2.1 ⟨h, h'⟩
    have g3 : ¬ (t.kind = 4 ∧ 1 < l.length) := hg.2.2.1
    have g4 : l.length ≤ 1024 := hg.2.2.2
    repeat' (first|refine Sp.h ?_|refine Lk.r rfl ?_|refine Rf.mk rfl ?_|refine xA ?_|refine xB ?_|(refine Bd.mk ?_ ?_ <;> intro _)|refine Im.mk fun _=>?_|refine All.mk fun _=>?_|refine xT ?_|refine Ch.l ⟨rfl, rfl⟩ ?_|refine xN ?_|(apply Cl.p (register_p _);focus repeat' constructor))
    all_goals try exact absurd (by assumption) (g2 (by assumption))
    all_goals try exact absurd (g1 (by assumption)) (by assumption)
    all_goals try exact (g3 ⟨by omega, by omega⟩).elim
    all_goals try (simp only at *;omega)
    all_goals refine MkM.r bl ?_
    all_goals repeat' (first|refine Sp.h ?_|refine Lk.r rfl ?_|refine Rf.mk rfl ?_|refine Im.mk fun _=>?_|refine All.mk fun _=>?_|refine xT ?_|fail)
    all_goals refine CA.loop (fun i : Nat => ⟨[(2, pm _), (3, pm _), (5, .val (.map (some _))), (42, mks l), (43, it (l.length : Nat)), (44, it i)], [blkR _ 94 (tblC t), blkR _ 194 (mgC ⟨put, drop, l⟩), mapR Tryz.prog _ 70 (namesL (l.take i)) bl]⟩) (fun i => i ≤ l.length ∧ MksTo t l i) (fun i => l.length - i) 0 xE ⟨Nat.zero_le _, mksTo_zero t l⟩ ?_
    all_goals
      rintro i ⟨hi, hm⟩
      by_cases hin : i < l.length
      · obtain ⟨x, hx⟩ := get_of hin
        have hlk := names_look (l.take i) x
        by_cases hdup : HasNm (l.take i) x
        · rw [if_pos hdup] at hlk
          repeat' (first|refine Sp.h ?_|refine Lk.r rfl ?_|refine Rf.mk rfl ?_|refine xA ?_|refine xB ?_|(refine Bd.mk ?_ ?_ <;> intro _)|refine OpK.r rfl ?_|refine All.mk fun _=>?_|refine xT ?_|refine xI ?_|refine Ch.l ⟨rfl, rfl⟩ ?_|(apply SetAsk.r;focus repeat' constructor)|refine xN ?_|refine xK ?_|(apply Kf.mk;(focus kernel_rfl))|refine xM ?_|(apply LkM.s;(focus first|assumption|rfl))|refine xD ?_|(apply Cl.p (right_p _ _);focus repeat' constructor)|(apply Cl.p (dot_p _);focus repeat' constructor))
          all_goals refine Fin.p rfl (vb (decide_eq_false (fun h => ?_)).symm)
          all_goals
            obtain ⟨h1, h2, -⟩ := h.2 i x hin hx
            first
              | exact absurd h1 (by assumption)
              | (obtain ⟨y, hy, hn⟩ := hdup
                 obtain ⟨j, hj⟩ := List.getElem?_of_mem hy
                 have hji : j < i := by have := (List.getElem?_eq_some_iff.1 hj).1;rw [List.length_take] at this;omega
                 rw [List.getElem?_take, if_pos hji] at hj
                 exact h2 j y hji hj hn)
        · rw [if_neg hdup] at hlk
          have hap := names_app hx hlk
          have hd : ∀ j y, j < i → l[j]? = some y → ¬ Nm y x := fun j y hj hy hn => hdup ⟨y, List.mem_of_getElem? (i := j) (by rw [List.getElem?_take, if_pos hj];exact hy), hn⟩
          rcases Nat.eq_zero_or_pos i with h0|h0
          · subst h0
            repeat' (first|refine Sp.h ?_|refine Lk.r rfl ?_|refine Rf.mk rfl ?_|refine xA ?_|refine xB ?_|(refine Bd.mk ?_ ?_ <;> intro _)|refine OpK.r rfl ?_|refine All.mk fun _=>?_|refine xT ?_|refine xI ?_|refine Ch.l ⟨rfl, rfl⟩ ?_|(apply SetAsk.r;focus repeat' constructor)|refine xN ?_|refine xK ?_|(apply Kf.mk;(focus kernel_rfl))|refine xM ?_|refine UpV.r rfl ?_|(apply Zx.b;(focus rfl))|(apply LkM.n;(focus first|assumption|rfl))|refine xD ?_|refine xO ?_|(apply Cl.p (right_p _ _);focus repeat' constructor)|(apply Cl.p (dot_p _);focus repeat' constructor))
            all_goals first
              | (refine Fin.p rfl (vb (decide_eq_false (fun h => ?_)).symm)
                 exact absurd (h.2 0 x hin hx).1 (by assumption))
              | (rw [hap]
                 exact PA.lp 1 xE ⟨⟨hin, mksTo_succ hx hm (by assumption) hd (fun y h _ => absurd h (Nat.lt_irrefl 0))⟩, by omega⟩)
          · obtain ⟨k, rfl⟩ : ∃ k, i = k + 1 := ⟨i - 1, by omega⟩
            obtain ⟨y, hy⟩ := get_of (l := l) (i := k) (by omega)
            have hk4 : ¬ t.kind = 4 := fun h => g3 ⟨h, by omega⟩
            have hcm := cmpK_pos (a := y) (b := x)
            first
              | exact absurd (by assumption) hk4
              | skip
            all_goals repeat' (first|refine Sp.h ?_|refine Lk.r rfl ?_|refine Rf.mk rfl ?_|refine xA ?_|refine xB ?_|(refine Bd.mk ?_ ?_ <;> intro _)|refine OpK.r rfl ?_|refine All.mk fun _=>?_|refine xT ?_|refine xI ?_|(apply Ix.r;(focus assumption);(focus omega))|refine Ch.l ⟨rfl, rfl⟩ ?_|(apply SetAsk.r;focus repeat' constructor)|refine xN ?_|refine xK ?_|(apply Kf.mk;(focus kernel_rfl))|refine xM ?_|(apply Zx.b;(focus rfl))|(apply LkM.n;(focus first|assumption|rfl))|refine xD ?_|refine xO ?_|(apply Cl.p (right_p _ _);focus repeat' constructor)|(apply Cl.p (dot_p _);focus repeat' constructor))
            all_goals try (refine Fin.p rfl (vb (decide_eq_false (fun h => ?_)).symm);exact absurd (h.2 (k + 1) x hin hx).1 (by assumption))
            all_goals repeat' (first|refine Sp.h ?_|refine Lk.r rfl ?_|refine Rf.mk rfl ?_|refine xA ?_|(refine Bd.mk ?_ ?_ <;> intro _)|refine OpK.r rfl ?_|refine xT ?_|refine Ch.l ⟨rfl, rfl⟩ ?_|refine xN ?_|refine xK ?_|(apply Kf.mk;(focus kernel_rfl))|refine xM ?_|refine UpV.r rfl ?_|refine xO ?_|(apply Cl.p (compareK_p _ _);focus repeat' constructor)|(apply Cl.p (dot_p _);focus repeat' constructor))
            all_goals first
              | (refine Fin.p rfl (vb (decide_eq_false (fun h => ?_)).symm)
                 exact (h.2 (k + 1) x hin hx).2.2 y h0 hy (hcm.1 (by assumption)))
              | (rw [hap]
                 exact PA.lp (k + 1 + 1) xE ⟨⟨hin, mksTo_succ hx hm (by assumption) hd (fun z _ hz => by rw [show k + 1 - 1 = k from rfl, hy] at hz;cases hz;exact fun h => absurd (hcm.2 h) (by assumption))⟩, by omega⟩)
      · have hie : i = l.length := by omega
        subst hie
        repeat' (first|refine Sp.h ?_|refine Lk.r rfl ?_|refine Rf.mk rfl ?_|refine xB ?_|refine xN ?_|fail)
        exact Fin.p rfl (vb (decide_eq_true (show ValG t ⟨put, drop, l⟩ from ⟨hg, hm⟩)).symm)
  · have hng : ¬ ValG t ⟨put, drop, l⟩ := fun h => hg h.1
    unfold GenG at hg
    repeat' (first|refine Sp.h ?_|refine Lk.r rfl ?_|refine Rf.mk rfl ?_|refine xA ?_|refine xB ?_|(refine Bd.mk ?_ ?_ <;> intro _)|refine Im.mk fun _=>?_|refine All.mk fun _=>?_|refine xT ?_|refine Ch.l ⟨rfl, rfl⟩ ?_|refine xN ?_|(apply Cl.p (register_p _);focus repeat' constructor))
    all_goals first
      | exact Fin.p rfl (vb (decide_eq_false hng).symm)
      | (refine (hg ⟨fun h => ?_, fun h => ?_, fun h => ?_, ?_⟩).elim
         all_goals (simp only at *;first|assumption|omega|simp_all))
def ValL (ts : List TblS) (l : List MgS) : Prop := ts.length = l.length ∧ ∀ (i : Nat) (t : TblS) (g : MgS), ts[i]? = some t → l[i]? = some g → ValG t g
noncomputable instance (ts : List TblS) (l : List MgS) : Decidable (ValL ts l) := Classical.propDecidable _
abbrev EqFn : FuncId := 157
theorem equalTM_p (ts : List TblS) (l : List MgS) : CallP Tryz.prog EqFn [tbls ts, mgs l, .fn 158 []] (bl (decide (ValL ts l))) := by
 refine CallA.of pg ord157 Tryz.func157 rfl Tryz.ntmps157 Tryz.results157 rfl fun h0 G0 O0 => ?_
 repeat' (first|refine Sp.h ?_|refine Lk.r rfl ?_|refine Rf.mk rfl ?_|(refine Bd.mk ?_ ?_ <;> intro _)|refine Im.mk fun _=>?_|refine xN ?_|fail)
 rotate_left
 ·rename_i hlen
  exact Fin.p rfl (vb (decide_eq_false (fun h => by have := h.1;omega)).symm)
 refine CA.loop (fun i : Nat => ⟨[(1, mgs l), (2, .fn 158 []), (15, tbls ts), (16, it (ts.length : Nat)), (17, it i)], []⟩) (fun i => i ≤ ts.length ∧ ∀ j t g, j < i → ts[j]? = some t → l[j]? = some g → ValG t g) (fun i => ts.length - i) 0 xE ⟨Nat.zero_le _, fun j t g h => by omega⟩ ?_
 rintro i ⟨hi, ha⟩
 by_cases hin : i < ts.length
 ·obtain ⟨t, ht⟩ := get_of hin
  obtain ⟨g, hg⟩ := get_of (l := l) (i := i) (by omega)
  repeat' (first|refine Sp.h ?_|refine Lk.r rfl ?_|refine Rf.mk rfl ?_|refine xA ?_|(refine Bd.mk ?_ ?_ <;> intro _)|refine All.mk fun _=>?_|refine xT ?_|refine xI ?_|refine Ch.l ⟨rfl, rfl⟩ ?_|(apply SetAsk.r;focus repeat' constructor)|refine xN ?_|refine xO ?_|(apply Cl.p (valid34_p _ _);focus repeat' constructor))
  ·refine PA.lp (i + 1) xE ⟨⟨hin, fun j t' g' hj h1 h2 => ?_⟩, by omega⟩
   by_cases hji : j = i
   ·subst hji;rw [ht] at h1;rw [hg] at h2;cases h1;cases h2;assumption
   ·exact ha j t' g' (by omega) h1 h2
  ·exact Fin.p rfl (vb (decide_eq_false (fun h => by have := h.2 i t g ht hg;contradiction)).symm)
 have hie : i = ts.length := by omega
 subst hie
 repeat' (first|refine Sp.h ?_|refine Lk.r rfl ?_|refine Rf.mk rfl ?_|refine xB ?_|refine xN ?_|fail)
 exact Fin.p rfl (vb (decide_eq_true (show ValL ts l from ⟨by omega, fun j t g h1 h2 => ha j t g (List.getElem?_eq_some_iff.1 h1).1 h1 h2⟩)).symm)
theorem validM_p (m : ModS) (l : List MgS) (hm : LayOK m.sorts m.tables) : CallP Tryz.prog 125 [mdl m, mgs l] (bl (decide (ValL (mrgF m) l))) := by
 have hc := cells_p m hm
 have he := equalTM_p (mrgF m) l
 refine CallA.of pg ord125 Tryz.func125 rfl Tryz.ntmps125 Tryz.results125 rfl fun h0 G0 O0 => ?_
 repeat' (first|refine Sp.h ?_|refine Lk.r rfl ?_|refine Rf.mk rfl ?_|refine All.mk fun _=>?_|refine xT ?_|refine Ch.l ⟨rfl, rfl⟩ ?_|(apply Cl.p (hc);focus repeat' constructor))
 refine xQ (he) ?_
 repeat' (first|refine Sp.h ?_|refine Lk.r rfl ?_|refine xN ?_|fail)
 exact Fin.p rfl rfl
end Go.Proofs.YtajenkpjcbaadaaGreat
namespace Go.Proofs.YtajenkpjcbaadaaGreat
open Go Go.CF
set_option maxRecDepth 20000
def KindM (ts : List TblS) : Prop := ∀ t ∈ ts, 2 ≤ t.kind ∧ t.kind ≤ 5
theorem mrgL_mem {m : ModS} {l : List TblS} {t : TblS} (h : t ∈ mrgL m l) : t ∈ l ∧ ¬ isStrict t.kind := by
 unfold mrgL at h
 obtain ⟨u, hu, ht⟩ := List.mem_flatMap.1 h
 split at ht
 ·cases ht
 ·rename_i hs
  have := List.eq_of_mem_replicate ht
  subst this
  exact ⟨hu, hs⟩
theorem kindM {m : ModS} (hm : LayOK m.sorts m.tables) : KindM (mrgF m) := by
 intro t ht
 obtain ⟨h1, h2⟩ := mrgL_mem ht
 have := (hm.2.2.2 t h1).2
 unfold isStrict at h2
 omega
structure Stopped (p : Prop) : Prop where
 h : p
theorem Stopped.out {p : Prop} (h : Stopped p) : p := h.h
end Go.Proofs.YtajenkpjcbaadaaGreat
namespace Go.Proofs.YtajenkpjcbaadaaGreat
open Go Go.CF
set_option maxRecDepth 20000
theorem ovF_mark : OvF Tryz.prog 219 192 :=
 ⟨_, 4, Tryz.func219, by kernel_rfl, by kernel_rfl, by kernel_rfl, by kernel_rfl⟩
instance (priority := 2000) {T : Nat → Ord × (Nat → Cls)} {n : Nat} {rs : Array ResultVar} {K : AV → List Res → Prop} {h0 : Heap} {G0 O0 : Nat → Prop} {d : Tmp} {x y : Operand} {tys : Array TypeId} {ty : TypeId} {e : EA} {o : List Res} {N : NA} :
  Sp (SA ⟨Tryz.prog, tt, en, pg, T, n, rs, K, h0, G0, O0, ⟨none⟩⟩ .loud (some d) (.call { callee := .value (.func 219), args := #[x, y], argTypes := tys }) ty e o N)
   (Lk (evA e x) fun a => Lk (evA e y) fun b => Ovl o a b (N ((d, .val (.bool false)) :: e) o)) := ⟨fun h => SA.ovl ovF_mark (tS := 192) rfl rfl h⟩
theorem ins_eq {α : Type} {L : List α} {r : α} {i : Nat} (hi : i < L.length) (a b c : Nat) (ha : a = L.length - i) (hb : b = 1) (hc : c = 1) :
  (L.take (i + c) ++ (L.drop i).take a).take i ++ [r].take b ++ (L.take (i + c) ++ (L.drop i).take a).drop (i + b) = L.take i ++ r :: L.drop i := by
 subst ha;subst hb;subst hc
 have h1 : (L.drop i).take (L.length - i) = L.drop i := List.take_of_length_le (by simp)
 have h2 : (L.take (i + 1)).length = i + 1 := by simp;omega
 rw [h1, List.take_append_of_le_length (by omega), List.take_take, Nat.min_eq_left (by omega), List.drop_append_of_le_length (by omega), List.drop_of_length_le (by omega)]
 simp
theorem ins_eq2 {α : Type} {L : List α} {r : α} {i : Nat} (hi : i < L.length) (a b c d e g : Nat) (hg : g = i) (he : e = 1) (hd : d = L.length - i) (hb : b = L.length - i) (ha : a = i) (hc : c = 1) :
  (((L.take g).take a ++ [r].take e).take (i + c) ++ ((L.drop i).take d).take b) = L.take i ++ r :: L.drop i := by
 subst ha;subst hb;subst hc;subst hd;subst he;subst hg
 have h1 : (L.drop g).take (L.length - g) = L.drop g := List.take_of_length_le (by simp)
 rw [h1, h1, List.take_take, Nat.min_self, List.take_of_length_le (l := List.take g L ++ List.take 1 [r]) (by simp;omega)]
 simp
set_option maxHeartbeats 1000000 in
theorem insertV_a (w u : Value) (L : List (List Value)) (r : List Value) (i : Nat) (hi : i ≤ L.length) (hl : L.length ≤ 1000000) :
  CallA Tryz.prog 204 [.ow w, it i, .ow u] [arrR w 205 4 L valR, arrR u 205 4 [r] valR] fun q own => ∃ w', q = .ow w' ∧ own = [arrR w' 205 4 (L.take i ++ r :: L.drop i) valR] := by
 refine CallA.of pg ord204 Tryz.func204 rfl Tryz.ntmps204 Tryz.results204 rfl fun h0 G0 O0 => ?_
 have h1r : ([r] : List (List Value)).length = 1 := rfl
 by_cases hin : i = L.length
 ·subst hin
  rw [List.take_length, List.drop_length]
  repeat' (first|refine Sp.h ?_|refine Lk.r rfl ?_|refine Rf.mk rfl ?_|refine xA ?_|refine xB ?_|refine xP ?_|refine All.mk fun _=>?_|refine xU ?_|refine Ce.r ?_|refine xN ?_|refine Rf.mk ⟨rfl, rfl⟩ ?_|(apply Jx.r;(focus exact rfl);(focus first|omega|(simp;done)|(simp;omega)))|refine Mp.same ?_|fail)
  exact ⟨_, _, .one (.same (.z)), _, rfl, rfl⟩
 have hin : i < L.length := by omega
 by_cases hc : capV w < L.length + 1
 ·repeat' (first|refine Sp.h ?_|refine Lk.r rfl ?_|refine Rf.mk rfl ?_|refine xA ?_|refine xB ?_|refine Im.mk fun _=>?_|refine xU ?_|refine Rf.mk ⟨rfl, rfl⟩ ?_|refine Rf.mk ⟨rfl, rfl, rfl⟩ ?_|(apply Jx.r;(focus exact rfl);(focus first|omega|(simp;done)|(simp;omega)))|refine Mp.same ?_|refine xO ?_|fail)
  refine Jx.r (j := L.length + [r].length - i) (by omega) (by omega) ?_
  (repeat' (first|(show CA _ _ (Code.region 12 _ _) _ _;apply Stopped.out)|refine Sp.h ?_|refine Lk.r rfl ?_|refine Rf.mk rfl ?_|refine OpK.r rfl ?_|refine xP ?_|refine All.mk fun _=>?_|refine xU ?_|refine Rf.mk ⟨rfl, rfl⟩ ?_|refine Rf.mk ⟨rfl, rfl, rfl⟩ ?_|(apply Jx.r;(focus exact rfl);(focus first|omega|(simp;done)|(simp;omega)))|refine Mp.same ?_|refine xD ?_|refine xO ?_|(apply CpS.part;(focus (repeat constructor;done)))|(apply TkX.r;(focus repeat constructor))|fail));any_goals apply Stopped.mk
  apply CA.ofX 9
  focus rfl
  focus (repeat constructor)
  focus (simp;omega)
  repeat' (first|refine Sp.h ?_|refine Lk.r rfl ?_|refine Rf.mk rfl ?_|refine xN ?_|fail)
  rw [ins_eq2 hin _ _ _ _ _ _ (by omega) (by omega) (by omega) (by simp;omega) (by omega) h1r]
  exact ⟨_, _, .one (.same (.z)), _, rfl, rfl⟩
 ·(repeat' (first|(show CA _ _ (Code.region 13 _ _) _ _;apply Stopped.out)|refine Sp.h ?_|refine Lk.r rfl ?_|refine Rf.mk rfl ?_|refine xB ?_|refine Im.mk fun _=>?_|refine xU ?_|(apply Jx.r;(focus exact rfl);(focus first|omega|(simp;done)|(simp;omega)))|refine xO ?_|fail));any_goals apply Stopped.mk
  apply CA.toX 0
  focus rfl
  focus (repeat constructor)
  intro _
  (repeat' (first|(show CA _ _ (Code.region 16 _ _) _ _;apply Stopped.out)|refine Sp.h ?_|refine Lk.r rfl ?_|refine Rf.mk rfl ?_|refine xB ?_|refine OpK.r rfl ?_|refine xP ?_|refine Rf.mk ⟨rfl, rfl, rfl⟩ ?_|(apply Jx.r;(focus exact rfl);(focus first|omega|(simp;done)|(simp;omega)))|refine xD ?_|refine xO ?_|(apply CpS.part;(focus (repeat constructor;done)))|(apply TkX.r;(focus repeat constructor))|(apply ExX.long;(focus rfl);(focus first|omega|(simp <;> omega));(focus first|omega|(simp <;> omega)))|(apply Ovl.mk';(focus repeat constructor);(focus repeat constructor);(focus decide))|fail));any_goals apply Stopped.mk
  refine CA.sub ⟨[(0, .ow _), (1, it i), (2, .ow u)], [arrR _ 205 4 _ valR, arrR u 205 4 [r] valR]⟩ xE ?_
  repeat' (first|refine Sp.h ?_|refine Lk.r rfl ?_|refine Rf.mk rfl ?_|refine xU ?_|refine xN ?_|refine Rf.mk ⟨rfl, rfl, rfl⟩ ?_|(apply Jx.r;(focus exact rfl);(focus first|omega|(simp;done)|(simp;omega)))|refine Mp.same ?_|(apply CpS.all;(focus (repeat constructor;done)))|fail)
  rw [ins_eq hin _ _ _ (by omega) (by simp;omega) h1r]
  exact ⟨_, _, .one (.same (.z)), _, rfl, rfl⟩
end Go.Proofs.YtajenkpjcbaadaaGreat
namespace Go.Proofs.YtajenkpjcbaadaaGreat
open Go Go.CF
set_option maxRecDepth 20000
def idxN {α : Type} (p : α → Bool) : List α → Nat
 | [] => 0
 | a :: l => if p a then 0 else idxN p l + 1
def idxI {α : Type} (p : α → Bool) (l : List α) : Int := if idxN p l < l.length then idxN p l else -1
theorem idxN_of {α : Type} {p : α → Bool} : ∀ {l : List α} {i : Nat} {x : α}, l[i]? = some x → p x = true → (∀ j y, j < i → l[j]? = some y → p y = false) → idxN p l = i := by
 intro l
 induction l with
 | nil => intro i x h;cases h
 | cons a l ih =>
  intro i x h1 h2 h3
  cases i with
  | zero => cases h1;simp [idxN, h2]
  | succ i =>
   have := h3 0 a (by omega) rfl
   simp [idxN, this, ih h1 h2 fun j y hj hy => h3 (j + 1) y (by omega) hy]
theorem idxN_none {α : Type} {p : α → Bool} : ∀ {l : List α}, (∀ x ∈ l, p x = false) → idxN p l = l.length := by
 intro l
 induction l with
 | nil => intro _;rfl
 | cons a l ih => intro h;simp [idxN, h a (by simp), ih fun x hx => h x (by simp [hx])]
theorem idxN_at {α : Type} {p : α → Bool} : ∀ {l : List α}, idxN p l < l.length → ∃ x, l[idxN p l]? = some x ∧ p x = true ∧ ∀ j y, j < idxN p l → l[j]? = some y → p y = false := by
 intro l
 induction l with
 | nil => intro h;simp at h
 | cons a l ih =>
  intro h
  by_cases ha : p a = true
  ·exact ⟨a, by simp [idxN, ha], ha, fun j y hj => by simp [idxN, ha] at hj⟩
  ·have he : idxN p (a :: l) = idxN p l + 1 := by simp [idxN, ha]
   obtain ⟨x, h1, h2, h3⟩ := ih (by rw [he] at h;simpa using h)
   refine ⟨x, by rw [he];exact h1, h2, fun j y hj hy => ?_⟩
   cases j with
   | zero => cases hy;simpa using ha
   | succ j => exact h3 j y (by omega) hy
theorem idxN_le {α : Type} (p : α → Bool) : ∀ l : List α, idxN p l ≤ l.length := by
 intro l
 induction l with
 | nil => exact Nat.le_refl _
 | cons a l ih => simp only [idxN, List.length_cons];split <;> omega
theorem indexF_p {g : FuncId} {cap : AV} {p : EvS → Bool} (hg : ∀ e, CallP Tryz.prog g [evA' e, cap] (.val (.bool (p e)))) (he : en g = true) (l : List EvS) :
  CallP Tryz.prog 147 [evs l, .fn g [cap]] (.val (.int .i64 (idxI p l))) := by
 refine CallA.of pg ord147 Tryz.func147 rfl Tryz.ntmps147 Tryz.results147 rfl fun h0 G0 O0 => ?_
 repeat' (first|refine Sp.h ?_|refine Lk.r rfl ?_|refine Rf.mk rfl ?_|refine Im.mk fun _=>?_|fail)
 rename_i hll
 refine CA.loop (fun i : Nat => ⟨[(0, evs l), (1, .fn g [cap]), (7, .val (.int .i64 l.length)), (8, .val (.int .i64 i))], []⟩)
  (fun i => i ≤ l.length ∧ ∀ j y, j < i → l[j]? = some y → p y = false) (fun i => l.length - i) 0 xE ⟨Nat.zero_le _, fun j y h => by omega⟩ ?_
 rintro i ⟨hi, hj⟩
 by_cases hin : i < l.length
 ·obtain ⟨e, hx⟩ := get_of hin
  repeat' (first|refine Sp.h ?_|refine Lk.r rfl ?_|refine Rf.mk rfl ?_|refine xA ?_|(refine Bd.mk ?_ ?_ <;> intro _)|refine xI ?_|refine Ch.l ⟨rfl, rfl⟩ ?_|refine xN ?_|(apply Rf.mk;(focus assumption))|refine xO ?_|(apply Cl.p (hg e);focus repeat' constructor))
  ·rename_i hp
   exact Fin.p rfl (by rw [idxI, idxN_of hx hp hj, if_pos hin])
  ·rename_i hp
   refine PA.lp (i + 1) xE ⟨⟨hin, fun j y h1 h2 => ?_⟩, by omega⟩
   by_cases hij : j = i
   ·subst hij;rw [hx] at h2;cases h2;simpa using hp
   ·exact hj j y (by omega) h2
 ·repeat' (first|refine Sp.h ?_|refine Lk.r rfl ?_|refine Rf.mk rfl ?_|refine xB ?_|refine xN ?_|fail)
  exact Fin.p rfl (by rw [idxI, idxN_none (fun x hx => by obtain ⟨j, hx⟩ := List.getElem?_of_mem hx;exact hj j x (by have := (List.getElem?_eq_some_iff.1 hx).1;omega) hx), if_neg (by omega)])
theorem containsF_p {g : FuncId} {cap : AV} {p : EvS → Bool} (hg : ∀ e, CallP Tryz.prog g [evA' e, cap] (.val (.bool (p e)))) (he : en g = true) (l : List EvS) :
  CallP Tryz.prog 105 [evs l, .fn g [cap]] (.val (.bool (decide (idxN p l < l.length)))) := by
 refine CallA.of pg ord105 Tryz.func105 rfl Tryz.ntmps105 Tryz.results105 rfl fun h0 G0 O0 => ?_
 repeat' (first|refine Sp.h ?_|refine Lk.r rfl ?_|refine Rf.mk rfl ?_|refine xN ?_|(apply Cl.p (indexF_p hg he l);focus repeat' constructor))
 refine Fin.p rfl (vb (decide_eq_decide.2 ?_))
 unfold idxI
 split <;> omega
def OpenE (c : List Int) (e : EvS) : Prop := HasC c e.rep e.num ∧ AlikeC [c, e.past] ∧ ¬ Ins e.past c
noncomputable instance (c : List Int) (e : EvS) : Decidable (OpenE c e) := Classical.propDecidable _
noncomputable def lowI (l : List EvS) (c : List Int) : Nat := idxN (fun e => decide (OpenE c e)) l
inductive Low (l : List EvS) : List Int → List Int → Prop where
 | stop {c : List Int} : (∀ e ∈ l, ¬ OpenE c e) → Low l c c
 | step {c r : List Int} {e : EvS} : l[lowI l c]? = some e → OpenE c e → Low l (c.set e.rep.toNat (e.num - 1)) r → Low l c r
def msr (c : List Int) : Nat := (c.map Int.toNat).sum
theorem msr_set : ∀ {c : List Int} {i : Nat} {x y : Int}, c[i]? = some x → 0 ≤ y → y < x → msr (c.set i y) < msr c := by
 intro c
 induction c with
 | nil => intro i x y h;cases h
 | cons a c ih =>
  intro i x y h h1 h2
  cases i with
  | zero => cases h;simp only [msr, List.set_cons_zero, List.map_cons, List.sum_cons];omega
  | succ i =>
   have := ih (i := i) h h1 h2
   simp only [msr, List.set_cons_succ, List.map_cons, List.sum_cons] at this ⊢
   omega
theorem open_set {c : List Int} {e : EvS} (h : OpenE c e) : msr (c.set e.rep.toNat (e.num - 1)) < msr c ∧ ValC (c.set e.rep.toNat (e.num - 1)) ∧ e.rep.toNat < c.length ∧ 0 ≤ e.rep ∧ 1 ≤ e.num ∧ e.num ≤ 1024 := by
 obtain ⟨⟨h1, h2, h3, x, hx, h4⟩, -, -⟩ := h
 have hx2 := h1.1 x (List.mem_of_getElem? hx)
 unfold rngK at hx2
 refine ⟨msr_set hx (by omega) (by omega), ⟨fun y hy => ?_, by rw [List.length_set];exact h1.2⟩, (List.getElem?_eq_some_iff.1 hx).1, h2, h3, by omega⟩
 rcases List.mem_or_eq_of_mem_set hy with hy|rfl
 ·exact h1.1 y hy
 ·unfold rngK;omega
theorem low_at {l : List EvS} {c : List Int} (h : lowI l c < l.length) : ∃ e, l[lowI l c]? = some e ∧ OpenE c e ∧ ∀ j y, j < lowI l c → l[j]? = some y → ¬ OpenE c y := by
 obtain ⟨e, h1, h2, h3⟩ := idxN_at h
 exact ⟨e, h1, of_decide_eq_true h2, fun j y hj hy => of_decide_eq_false (h3 j y hj hy)⟩
theorem idx_mem {α : Type} {p : α → Bool} {e : α} : ∀ {l : List α}, e ∈ l → p e = true → idxN p l < l.length := by
 intro l
 induction l with
 | nil => intro h;cases h
 | cons a l ih =>
  intro h ho
  by_cases ha : p a = true
  ·simp [idxN, ha]
  ·rcases List.mem_cons.1 h with rfl|h9
   ·exact absurd ho ha
   ·simp [idxN, ha, ih h9 ho]
theorem low_no {l : List EvS} {c : List Int} (h : ¬ lowI l c < l.length) : ∀ e ∈ l, ¬ OpenE c e := by
 intro e he ho
 exact h (idx_mem (p := fun e => decide (OpenE c e)) he (decide_eq_true ho))
theorem low_yes {l : List EvS} {c : List Int} (h : ∀ e ∈ l, ¬ OpenE c e) : ¬ lowI l c < l.length := fun h9 => by
 obtain ⟨e, h1, h2, -⟩ := low_at h9
 exact h e (List.mem_of_getElem? h1) h2
def AllE (l : List EvS) (c : List Int) : Prop := ValC c ∧ ∀ e ∈ l, FormedE e ∧ e.past.length = c.length
end Go.Proofs.YtajenkpjcbaadaaGreat
namespace Go.Proofs.YtajenkpjcbaadaaGreat
open Go Go.CF
set_option maxRecDepth 20000
abbrev mA (x : MkS) : AV := .agg (mkC x)
theorem indexK_p {g : FuncId} {cap : AV} {p : MkS → Bool} (hg : ∀ x, CallP Tryz.prog g [mA x, cap] (bl (p x))) (he : en g = true) (l : List MkS) :
  CallP Tryz.prog 218 [mks l, .fn g [cap]] (it (idxI p l)) := by
 refine CallA.of pg ord218 Tryz.func218 rfl Tryz.ntmps218 Tryz.results218 rfl fun h0 G0 O0 => ?_
 repeat' (first|refine Sp.h ?_|refine Lk.r rfl ?_|refine Rf.mk rfl ?_|refine Im.mk fun _=>?_|fail)
 refine CA.loop (fun i : Nat => ⟨[(0, mks l), (1, .fn g [cap]), (7, it (l.length : Nat)), (8, it i)], []⟩)
  (fun i => i ≤ l.length ∧ ∀ j y, j < i → l[j]? = some y → p y = false) (fun i => l.length - i) 0 xE ⟨Nat.zero_le _, fun j y h => by omega⟩ ?_
 rintro i ⟨hi, hj⟩
 by_cases hin : i < l.length
 ·obtain ⟨e, hx⟩ := get_of hin
  repeat' (first|refine Sp.h ?_|refine Lk.r rfl ?_|refine Rf.mk rfl ?_|refine xA ?_|(refine Bd.mk ?_ ?_ <;> intro _)|refine xI ?_|refine Ch.l ⟨rfl, rfl⟩ ?_|refine xN ?_|(apply Rf.mk;(focus assumption))|refine xO ?_|(apply Cl.p (hg e);focus repeat' constructor))
  ·rename_i hp
   exact Fin.p rfl (by rw [idxI, idxN_of hx hp hj, if_pos hin])
  ·rename_i hp
   refine PA.lp (i + 1) xE ⟨⟨hin, fun j y h1 h2 => ?_⟩, by omega⟩
   by_cases hij : j = i
   ·subst hij;rw [hx] at h2;cases h2;simpa using hp
   ·exact hj j y (by omega) h2
 ·repeat' (first|refine Sp.h ?_|refine Lk.r rfl ?_|refine Rf.mk rfl ?_|refine xB ?_|refine xN ?_|fail)
  exact Fin.p rfl (by rw [idxI, idxN_none (fun x hx => by obtain ⟨j, hx⟩ := List.getElem?_of_mem hx;exact hj j x (by have := (List.getElem?_eq_some_iff.1 hx).1;omega) hx), if_neg (by omega)])
theorem containsK_p {g : FuncId} {cap : AV} {p : MkS → Bool} (hg : ∀ x, CallP Tryz.prog g [mA x, cap] (bl (p x))) (he : en g = true) (l : List MkS) :
  CallP Tryz.prog 201 [mks l, .fn g [cap]] (bl (decide (idxN p l < l.length))) := by
 refine CallA.of pg ord201 Tryz.func201 rfl Tryz.ntmps201 Tryz.results201 rfl fun h0 G0 O0 => ?_
 repeat' (first|refine Sp.h ?_|refine Lk.r rfl ?_|refine Rf.mk rfl ?_|refine xN ?_|(apply Cl.p (indexK_p hg he l);focus repeat' constructor))
 refine Fin.p rfl (vb (decide_eq_decide.2 ?_))
 unfold idxI
 split <;> omega
theorem idxN_lt {α : Type} {p : α → Bool} {l : List α} : idxN p l < l.length ↔ ∃ x ∈ l, p x = true := by
 constructor
 ·intro h
  obtain ⟨x, h1, h2, _⟩ := idxN_at h
  exact ⟨x, List.mem_of_getElem? h1, h2⟩
 ·rintro ⟨x, hx, hp⟩
  refine Classical.byContradiction fun h => ?_
  have hle := idxN_le p l
  have he : idxN p l = l.length := by omega
  have key : ∀ l : List α, idxN p l = l.length → ∀ x ∈ l, p x = false := by
   intro l
   induction l with
   | nil => intro _ x h;cases h
   | cons a l ih =>
    intro h x hx
    by_cases ha : p a = true
    ·simp [idxN, ha] at h
    ·have ha' : p a = false := by simpa using ha
     simp [idxN, ha'] at h
     rcases List.mem_cons.1 hx with rfl|hx
     ·exact ha'
     ·exact ih h x hx
  rw [key l he x hx] at hp
  cases hp
def mkV (x : MkS) : List Value := [.int .i64 x.rep, .int .i64 x.num, .int .i64 x.time, .int .i64 x.val]
theorem mkV_map (l : List MkS) : (l.map mkV).map valR = l.map mkC := by rw [List.map_map];rfl
theorem filt_idx {α : Type} {p : α → Bool} : ∀ {l : List α}, idxN p l < l.length → (l.take (idxN p l + 1)).filter (fun x => !p x) = l.take (idxN p l) := by
 intro l
 induction l with
 | nil => intro h;simp at h
 | cons a l ih =>
  intro h
  by_cases ha : p a = true
  ·simp [idxN, ha]
  ·have ha' : p a = false := by simpa using ha
   have he : idxN p (a :: l) = idxN p l + 1 := by simp [idxN, ha']
   rw [he] at h ⊢
   have := ih (by simpa using h)
   rw [List.take_succ_cons, List.filter_cons, List.take_succ_cons, this]
   simp [ha']
set_option maxHeartbeats 1000000 in
theorem deleteK_a {g : FuncId} {cap : AV} {p : MkS → Bool} (hg : ∀ x, CallP Tryz.prog g [mA x, cap] (bl (p x))) (he : en g = true) (w : Value) (l : List MkS) (hl : l.length ≤ 1000000) :
  CallA Tryz.prog 221 [.ow w, .fn g [cap]] [arrR w 205 4 l mkC] fun q own => ∃ w', q = .ow w' ∧ own = [arrR w' 205 4 (l.filter fun x => !p x) mkC] := by
 have hix := indexK_p hg he l
 refine CallA.of pg ord221 Tryz.func221 rfl Tryz.ntmps221 Tryz.results221 rfl fun h0 G0 O0 => ?_
 repeat' (first|refine Sp.h ?_|refine Lk.r rfl ?_|refine Rf.mk rfl ?_|fail)
 (apply Cl.lend (hix);(focus repeat' (first|exact Lend.nil|apply Lend.keep|(apply Lend.lend;(focus repeat constructor);(focus first|omega|(simp;omega)))|fail)))
 by_cases hn : idxN p l < l.length
 ·have hI : idxI p l = (idxN p l : Nat) := if_pos hn
  rw [hI]
  repeat' (first|refine Sp.h ?_|refine Lk.r rfl ?_|refine Rf.mk rfl ?_|refine xB ?_|refine xO ?_|fail)
  refine CA.loop (fun x : Nat × Nat × List MkS => ⟨[(0, .ow w), (1, .fn g [cap]), (5, it x.1), (6, it x.2.1)], [arrR w 205 4 x.2.2 mkC]⟩)
   (fun x => x.1 < x.2.1 ∧ x.2.1 ≤ l.length ∧ x.2.2.length = l.length ∧ x.2.2.take x.1 = (l.take x.2.1).filter (fun x => !p x) ∧ x.2.2.drop x.2.1 = l.drop x.2.1) (fun x => l.length - x.2.1) (idxN p l, idxN p l + 1, l) xE ⟨Nat.lt_succ_self _, hn, rfl, (filt_idx hn).symm, rfl⟩ ?_
  rintro ⟨i, j, cur⟩ ⟨h1, h2, h3, h4, h5⟩
  simp only at h1 h2 h3 h4 h5
  simp only
  by_cases hj : j < l.length
  ·obtain ⟨x, hx⟩ := get_of hj
   have hcx : cur[j]? = some x := by
    have := congrArg (fun z => z[0]?) h5
    simpa [List.getElem?_drop, hx] using this
   obtain ⟨y, hy⟩ := get_of (l := cur) (i := i) (by omega)
   have h6 : cur.drop (j + 1) = l.drop (j + 1) := by rw [← List.drop_drop, h5, List.drop_drop]
   have h7 : l.take (j + 1) = l.take j ++ [x] := by rw [List.take_add_one, hx];rfl
   repeat' (first|refine Sp.h ?_|refine Lk.r rfl ?_|refine Rf.mk rfl ?_|refine xA ?_|(refine Bd.mk ?_ ?_ <;> intro _)|refine All.mk fun _=>?_|refine xU ?_|refine xT ?_|refine xI ?_|refine xJ ?_|refine Ch.l ⟨rfl, rfl⟩ ?_|(apply SetAsk.r;focus repeat' constructor)|refine xN ?_|refine Up.r rfl ?_|(apply Rf.mk;(focus assumption))|refine xO ?_|(apply Cl.p (hg x);focus repeat' constructor))
   ·rename_i hp
    exact PA.lp (i, j + 1, cur) xE ⟨⟨by simp only;omega, hj, h3, by simp only;rw [h7, List.filter_append, h4];simp [hp], h6⟩, by simp only;omega⟩
   ·rename_i hp
    have hp : p x = false := by simpa using hp
    have h8 : (cur.set i x).take (i + 1) = cur.take i ++ [x] := by
     rw [List.take_add_one, List.getElem?_set, if_pos rfl, if_pos (by omega), List.take_set_of_le (Nat.le_refl _)];rfl
    exact PA.lp (i + 1, j + 1, cur.set i x) xE ⟨⟨by simp only;omega, hj, by simp only;rw [List.length_set];exact h3, by simp only;rw [h7, List.filter_append, h8, h4];simp [hp], by simp only;rw [List.drop_set_of_lt (by omega)];exact h6⟩, by simp only;omega⟩
  ·have hje : j = l.length := by omega
   subst hje
   rw [List.take_length] at h4
   (repeat' (first|(show CA _ _ (Code.region 11 _ _) _ _;apply Stopped.out)|refine Sp.h ?_|refine Lk.r rfl ?_|refine Rf.mk rfl ?_|refine xB ?_|refine xU ?_|fail));any_goals apply Stopped.mk
   apply CA.retype (m := cur.map mkV) (g := valR)
   focus (repeat constructor)
   focus exact mkV_map cur
   apply CA.toX 0
   focus rfl
   focus (repeat constructor)
   intro hcap
   rw [List.length_map] at hcap
   (repeat' (first|(show CA _ _ Code.ret _ _;apply Stopped.out)|refine Sp.h ?_|refine Lk.r rfl ?_|refine Rf.mk rfl ?_|refine xP ?_|refine Rf.mk ⟨rfl, rfl⟩ ?_|refine Rf.mk ⟨rfl, rfl, rfl⟩ ?_|(apply Jx.r;(focus exact rfl);(focus first|omega|(simp;done)|(simp;omega)))|(apply TkX.r;(focus repeat constructor))|(apply ExX.short;(focus rfl);(focus first|omega|(simp <;> omega));(focus first|omega|(simp <;> omega)))|fail));any_goals apply Stopped.mk
   apply CA.retype (m := l.filter fun x => !p x) (g := mkC)
   focus (repeat constructor)
   focus (rw [← h4, ← mkV_map, List.map_take];simp [List.take_take])
   repeat' (first|refine Sp.h ?_|refine Lk.r rfl ?_|refine xN ?_|fail)
   exact ⟨_, _, .one (.same (.z)), _, rfl, rfl⟩
 ·have hI : idxI p l = -1 := if_neg hn
  have hall : l.filter (fun x => !p x) = l := List.filter_eq_self.2 fun x hx => by
   have h9 : ¬ ∃ x ∈ l, p x = true := fun h => hn (idxN_lt.2 h)
   cases hpx : p x
   ·rfl
   ·exact absurd ⟨x, hx, hpx⟩ h9
  rw [hI, hall]
  repeat' (first|refine Sp.h ?_|refine Lk.r rfl ?_|refine Rf.mk rfl ?_|refine xA ?_|refine xN ?_|fail)
  exact ⟨_, _, .one (.same (.z)), _, rfl, rfl⟩
end Go.Proofs.YtajenkpjcbaadaaGreat
namespace Go.Proofs.YtajenkpjcbaadaaGreat
open Go Go.CF
set_option maxRecDepth 20000
theorem cloneK_o (l : List MkS) (hl : l.length ≤ 1000000000) : CallO Tryz.prog 135 [mks l] 205 4 l mkC := by
 refine CallA.of pg ord135 Tryz.func135 rfl Tryz.ntmps135 Tryz.results135 rfl fun h0 G0 O0 => ?_
 repeat' (first|refine Sp.h ?_|refine Lk.r rfl ?_|refine Rf.mk rfl ?_|(refine Bd.mk ?_ ?_ <;> intro _)|refine xP ?_|refine Im.mk fun _=>?_|refine All.mk fun _=>?_|refine xU ?_|refine Ce.l rfl ?_|(apply Fk.r;focus repeat' first|infer_instance|constructor)|refine xN ?_|refine Rf.mk ⟨rfl, rfl⟩ ?_|refine Rf.mk ⟨rfl, rfl, rfl⟩ ?_|refine Mp.same ?_|fail)
 ·rename_i b hb hbt
  have hl0 : l = [] := Decidable.byContradiction fun h => by rw [hb h] at hbt;cases hbt
  subst hl0
  exact ⟨_, _, .one (.nils (.z)), _, rfl, rfl⟩
 ·repeat' (first|fail)
  exact ⟨_, _, .one (.same (.z)), _, rfl, rfl⟩
theorem cloneG_o (l : List MgS) (hl : l.length ≤ 1000000000) : CallO Tryz.prog 134 [mgs l] 194 3 l mgC := by
 refine CallA.of pg ord134 Tryz.func134 rfl Tryz.ntmps134 Tryz.results134 rfl fun h0 G0 O0 => ?_
 repeat' (first|refine Sp.h ?_|refine Lk.r rfl ?_|refine Rf.mk rfl ?_|(refine Bd.mk ?_ ?_ <;> intro _)|refine xP ?_|refine Im.mk fun _=>?_|refine All.mk fun _=>?_|refine xU ?_|refine Ce.l rfl ?_|(apply Fk.r;focus repeat' first|infer_instance|constructor)|refine xN ?_|refine Rf.mk ⟨rfl, rfl⟩ ?_|refine Rf.mk ⟨rfl, rfl, rfl⟩ ?_|refine Mp.same ?_|fail)
 ·rename_i b hb hbt
  have hl0 : l = [] := Decidable.byContradiction fun h => by rw [hb h] at hbt;cases hbt
  subst hl0
  exact ⟨_, _, .one (.nils (.z)), _, rfl, rfl⟩
 ·repeat' (first|fail)
  exact ⟨_, _, .one (.same (.z)), _, rfl, rfl⟩
structure MgE where
 put : Bool
 drop : Bool
 w : Value
 marks : List MkS
def MgE.g (e : MgE) : MgS := ⟨e.put, e.drop, e.marks⟩
def mgeC (e : MgE) : List AV := [bl e.put, bl e.drop, .ow e.w]
abbrev mgeR (e : MgE) : Res := arrR e.w 205 4 e.marks mkC
def ogC (x : Bool × Bool × AV) : List AV := [bl x.1, bl x.2.1, x.2.2]
instance {a b : Bool} {c : AV} : Inv ogC [bl a, bl b, c] (a, b, c) := ⟨rfl⟩
def ogE (e : MgE) : Bool × Bool × AV := (e.put, e.drop, .ow e.w)
def ogG (g : MgS) : Bool × Bool × AV := (g.put, g.drop, mks g.marks)
theorem ogE_map (l : List MgE) : l.map mgeC = (l.map ogE).map ogC := by rw [List.map_map];rfl
theorem ogG_map (l : List MgS) : (l.map ogG).map ogC = l.map mgC := by rw [List.map_map];rfl
abbrev outR (v : Value) (L : List MgE) : List Res := [arrR v 194 3 L mgeC, bunR (L.map mgeR)]
theorem clone34_a (l : List MgS) (hl : l.length ≤ 1000000) (hm : ∀ g ∈ l, g.marks.length ≤ 1000000) :
  CallA Tryz.prog 129 [mgs l] [] fun r own => ∃ v L, r = .ow v ∧ L.map MgE.g = l ∧ own = outR v L := by
 have hc := cloneG_o l (by omega)
 refine CallA.of pg ord129 Tryz.func129 rfl Tryz.ntmps129 Tryz.results129 rfl fun h0 G0 O0 => ?_
 repeat' (first|refine Sp.h ?_|refine Lk.r rfl ?_|refine Rf.mk rfl ?_|fail)
 (refine Cl.use (hc) (by repeat' (first|exact Lend.nil|apply Lend.keep|fail)) .nil rfl ?_;rintro _ _ ⟨_, rfl, rfl⟩)
 repeat' (first|refine Sp.h ?_|refine Lk.r rfl ?_|refine Rf.mk rfl ?_|refine xU ?_|fail)
 rename_i v
 apply CA.retype (m := l.map ogG) (g := ogC)
 focus (repeat constructor)
 focus exact ogG_map l
 refine CA.bunNil mgeR ?_
 refine CA.loop (fun x : Nat × List MgE => ⟨[(3, .ow v), (8, it (l.length : Nat)), (9, it x.1)], [arrR v 194 3 (x.2.map ogE ++ (l.drop x.1).map ogG) ogC, bunR (x.2.map mgeR)]⟩)
  (fun x => x.1 ≤ l.length ∧ x.2.map MgE.g = l.take x.1) (fun x => l.length - x.1) (0, []) xE ⟨Nat.zero_le _, by simp⟩ ?_
 rintro ⟨i, D⟩ ⟨hi, hD⟩
 simp only at hi hD
 simp only
 by_cases hin : i < l.length
 ·obtain ⟨g, hg⟩ := get_of hin
  have hgm := hm g (List.mem_of_getElem? hg)
  have hDl : D.length = i := by have := congrArg List.length hD;simp at this;omega
  have hdr : (l.drop i).map ogG = ogG g :: (l.drop (i + 1)).map ogG := by
   have h9 := List.drop_eq_getElem_cons hin
   rw [(List.getElem?_eq_some_iff.1 hg).2] at h9
   rw [h9, List.map_cons]
  have hrow : (D.map ogE ++ (l.drop i).map ogG)[i]? = some (g.put, g.drop, mks g.marks) := by
   rw [hdr, List.getElem?_append_right (by simp;omega)];simp [hDl, ogG]
  have hcl := cloneK_o g.marks (by omega)
  repeat' (first|refine Sp.h ?_|refine Lk.r rfl ?_|refine Rf.mk rfl ?_|refine xA ?_|refine xU ?_|refine xI ?_|refine xJ ?_|fail)
  (refine Cl.use (hcl) (by repeat' (first|exact Lend.nil|apply Lend.keep|fail)) .nil rfl ?_;rintro _ _ ⟨_, rfl, rfl⟩)
  (repeat' (first|(show CA _ _ (Code.region 6 _ _) _ _;apply Stopped.out)|refine Sp.h ?_|refine Lk.r rfl ?_|refine Rf.mk rfl ?_|refine xU ?_|refine xI ?_|refine xJ ?_|refine xV ?_|(apply Up.inv;(focus repeat constructor);(focus infer_instance))|fail));any_goals apply Stopped.mk
  rename_i w2
  have hset : (D.map ogE ++ (l.drop i).map ogG).set i (g.put, g.drop, .ow w2) = (D ++ [(MgE.mk g.put g.drop w2 g.marks)]).map ogE ++ (l.drop (i + 1)).map ogG := by
   rw [hdr, List.set_append, if_neg (by simp;omega)]
   simp [hDl, ogE]
  rw [hset]
  apply CA.bunPush (g := mgeR) (x := (MgE.mk g.put g.drop w2 g.marks))
  focus (repeat constructor)
  focus (repeat constructor)
  repeat' (first|refine Sp.h ?_|refine Lk.r rfl ?_|refine Rf.mk rfl ?_|refine xO ?_|fail)
  exact PA.lp (i + 1, D ++ [(MgE.mk g.put g.drop w2 g.marks)]) xE ⟨⟨hin, by simp only;rw [List.map_append, hD, List.take_add_one, hg];rfl⟩, by simp only;omega⟩
 ·have hie : i = l.length := by omega
  subst hie
  rw [List.take_length] at hD
  rw [List.drop_length, List.map_nil, List.append_nil]
  (repeat' (first|(show CA _ _ (Code.region 7 _ _) _ _;apply Stopped.out)|refine Sp.h ?_|refine Lk.r rfl ?_|refine Rf.mk rfl ?_|refine xB ?_|fail));any_goals apply Stopped.mk
  apply CA.retype (m := D) (g := mgeC)
  focus (repeat constructor)
  focus exact ogE_map D
  repeat' (first|refine Sp.h ?_|refine Lk.r rfl ?_|refine Rf.mk rfl ?_|refine xN ?_|fail)
  exact ⟨_, _, .one (.same (.z)), _, D, rfl, hD, rfl⟩
end Go.Proofs.YtajenkpjcbaadaaGreat
namespace Go.Proofs.YtajenkpjcbaadaaGreat
open Go Go.CF
set_option maxRecDepth 20000
instance {a b : AV} [ha : Flat a] [hb : Flat b] : Flat (.tup [a, b]) := ⟨by
 rintro h h' G G' v ⟨vs, rfl, hr⟩
 match vs, hr with
 | [x, y], ⟨h1, h2, _⟩ => exact ⟨[x, y], rfl, ha.h _ _ _ _ _ h1, hb.h _ _ _ _ _ h2, trivial⟩⟩
noncomputable def posK (l : List MkS) (x : MkS) : Nat := idxN (fun y => decide (¬ LtK y x)) l
def MonoK (l : List MkS) (x : MkS) : Prop := ∀ (i j : Nat) (a b : MkS), i ≤ j → l[i]? = some a → l[j]? = some b → LtK b x → LtK a x
theorem posK_of {l : List MkS} {x : MkS} {n : Nat} (hn : n ≤ l.length) (h1 : ∀ (q : Nat) y, q < n → l[q]? = some y → LtK y x) (h2 : ∀ (q : Nat) y, n ≤ q → l[q]? = some y → ¬ LtK y x) : posK l x = n := by
 by_cases hnl : n < l.length
 ·obtain ⟨y, hy⟩ := get_of hnl
  exact idxN_of hy (decide_eq_true (h2 n y (Nat.le_refl _) hy)) fun j z hj hz => decide_eq_false (fun h => h (h1 j z hj hz))
 ·have hne : n = l.length := by omega
  rw [hne]
  exact idxN_none fun y hy => by
   obtain ⟨j, hj⟩ := List.getElem?_of_mem hy
   exact decide_eq_false (fun h => h (h1 j y (by have := (List.getElem?_eq_some_iff.1 hj).1;omega) hj))
noncomputable def fndK (l : List MkS) (x : MkS) : Bool := decide (∃ y, l[posK l x]? = some y ∧ cmpK y x = 0)
theorem binK_p (l : List MkS) (x : MkS) (hm : MonoK l x) (hl : l.length ≤ 1000000) :
  CallP Tryz.prog 203 [mks l, mA x, .fn 200 []] (.tup [it (posK l x : Nat), bl (fndK l x)]) := by
 refine CallA.of pg ord203 Tryz.func203 rfl Tryz.ntmps203 Tryz.results203 rfl fun h0 G0 O0 => ?_
 repeat' (first|refine Sp.h ?_|refine Lk.r rfl ?_|refine Rf.mk rfl ?_|refine Im.mk fun _=>?_|refine All.mk fun _=>?_|fail)
 refine CA.loop (fun p : Nat × Nat => ⟨[(0, mks l), (2, .fn 200 []), (4, pm _), (8, it (l.length : Nat)), (9, it p.1), (10, it p.2)], [blkR _ 205 (mkC x)]⟩)
  (fun p => p.1 ≤ p.2 ∧ p.2 ≤ l.length ∧ (∀ (q : Nat) y, q < p.1 → l[q]? = some y → LtK y x) ∧ ∀ (q : Nat) y, p.2 ≤ q → l[q]? = some y → ¬ LtK y x) (fun p => p.2 - p.1) (0, l.length) xE
  ⟨Nat.zero_le _, Nat.le_refl _, fun q y h => absurd h (Nat.not_lt_zero q), fun q y h h' => by have := (List.getElem?_eq_some_iff.1 h').1;simp only at h;omega⟩ ?_
 rintro ⟨i, j⟩ ⟨h1, h2, h3, h4⟩
 simp only at h1 h2 h3 h4
 simp only
 by_cases hij : i < j
 ·obtain ⟨y, hy⟩ := get_of (l := l) (i := (i + j) / 2) (by omega)
  have hcm := cmpK_neg (a := y) (b := x)
  have e1 : ((i : Int) + (j : Int)) / 2 = (((i + j) / 2 : Nat) : Int) := by omega
  repeat' (first|refine Sp.h ?_|refine Lk.r rfl ?_|refine Rf.mk rfl ?_|refine xA ?_|(refine Bd.mk ?_ ?_ <;> intro _)|refine OpK.r rfl ?_|refine xT ?_|refine xI ?_|refine Ch.l ⟨rfl, rfl⟩ ?_|refine xD ?_|refine xO ?_|(apply Cvk.i64;(focus rfl);(focus omega))|(apply Cvk.u64;(focus rfl);(focus omega))|(apply Cl.p (compareK_p _ _);focus repeat' constructor))
  ·rename_i hlt
   have hyx := hcm.1 hlt
   exact PA.lp ((i + j) / 2 + 1, j) xE ⟨⟨by simp only;omega, h2, fun q z hq hz => hm q ((i + j) / 2) z y (by simp only at hq;omega) hz hy hyx, h4⟩, by simp only;omega⟩
  ·rename_i hlt
   have hyx : ¬ LtK y x := fun h => hlt (hcm.2 h)
   exact PA.lp (i, (i + j) / 2) xE ⟨⟨by simp only;omega, by simp only;omega, h3, fun q z hq hz h => hyx (hm ((i + j) / 2) q y z (by simp only at hq;omega) hy hz h)⟩, by simp only;omega⟩
 ·have hije : i = j := by omega
  subst hije
  have hpos := posK_of h2 h3 h4
  by_cases hin : i < l.length
  ·obtain ⟨y, hy⟩ := get_of hin
   repeat' (first|refine Sp.h ?_|refine Lk.r rfl ?_|refine Rf.mk rfl ?_|refine xA ?_|refine xB ?_|refine OpK.r rfl ?_|refine xT ?_|refine xI ?_|refine Ch.l ⟨rfl, rfl⟩ ?_|refine xN ?_|refine xD ?_|(apply Cl.p (compareK_p _ _);focus repeat' constructor))
   refine Fin.p rfl ?_
   rw [hpos]
   have : fndK l x = decide (cmpK y x = 0) := decide_eq_decide.2 (by rw [hpos, hy];simp)
   rw [this]
  ·repeat' (first|refine Sp.h ?_|refine Lk.r rfl ?_|refine Rf.mk rfl ?_|refine xB ?_|refine OpK.r rfl ?_|refine xN ?_|refine xD ?_|(apply Cl.p (compareK_p _ _);(focus repeat' (first|fail))))
   refine Fin.p rfl ?_
   rw [hpos]
   have : fndK l x = false := decide_eq_false (by rw [hpos];rintro ⟨y, hy, _⟩;have := (List.getElem?_eq_some_iff.1 hy).1;omega)
   rw [this]
end Go.Proofs.YtajenkpjcbaadaaGreat
namespace Go.Proofs.YtajenkpjcbaadaaGreat
open Go Go.CF
set_option maxRecDepth 20000
theorem insertV_b {β : Type} (w u : Value) (L : List (List Value)) (r : List Value) (r' : β) (g : β → List AV) (hr : g r' = valR r) (i : Nat) (hi : i ≤ L.length) (hl : L.length ≤ 1000000) :
  CallA Tryz.prog 204 [.ow w, it i, .ow u] [arrR w 205 4 L valR, arrR u 205 4 [r'] g] fun q own => ∃ w', q = .ow w' ∧ own = [arrR w' 205 4 (L.take i ++ r :: L.drop i) valR] := by
 refine ⟨fun h G Os vs h1 h2 => ?_⟩
 match Os, h2.own with
 | [O1, O2], ⟨k1, ⟨ho, rows, hw, hrr⟩, _⟩ =>
  exact (insertV_a w u L r i hi hl).run h G [O1, O2] vs h1 ⟨⟨k1, ⟨ho, rows, hw, hrr.map (by simp [hr])⟩, trivial⟩, h2.g, h2.g0, h2.o, h2.d, h2.fp⟩
def chC (kp : AV) (e : EvS) (m : MkS) : List AV := [kp, iv e.rep, iv e.num, iv e.time, ints e.past, iv e.kind, iv e.action, iv e.gk, iv e.gi, iv e.ge, iv e.ga, iv e.to, iv e.place, iv e.serial, it m.rep, it m.num, it m.time, it m.val]
noncomputable instance (x y : MkS) : Decidable (Nm x y) := Classical.propDecidable _
theorem add1_p (kp : AV) (e : EvS) (m x : MkS) : CallP Tryz.prog 202 [mA x, .ad (chC kp e m) 0] (bl (decide (Nm x m))) := by
 refine CallA.of pg ord202 Tryz.func202 rfl Tryz.ntmps202 Tryz.results202 rfl fun h0 G0 O0 => ?_
 repeat' (first|refine Sp.h ?_|refine Lk.r rfl ?_|refine Rf.mk rfl ?_|refine OpK.r rfl ?_|refine All.mk fun _=>?_|refine xT ?_|refine Ch.l ⟨rfl, rfl⟩ ?_|refine Ch.r ?_|refine xN ?_|refine xK ?_|(apply Kf.mk;(focus kernel_rfl))|refine xD ?_|(apply Cl.p (dot_p _);focus repeat' constructor))
 refine Fin.p rfl (vb (decide_eq_decide.2 ?_))
 unfold Nm
 simp
noncomputable def insK (l : List MkS) (x : MkS) : List MkS := l.take (posK l x) ++ x :: l.drop (posK l x)
noncomputable def addF (l : List MkS) (x : MkS) : Int × List MkS := if HasNm l x then (6, l) else if 1024 ≤ l.length then (8, l) else (0, insK l x)
theorem posK_le (l : List MkS) (x : MkS) : posK l x ≤ l.length := idxN_le _ l
theorem insK_map (l : List MkS) (x : MkS) : (insK l x).map mkV = (l.map mkV).take (posK l x) ++ mkV x :: (l.map mkV).drop (posK l x) := by
 simp [insK, List.map_take, List.map_drop]
theorem has_idx (l : List MkS) (m : MkS) : idxN (fun x => decide (Nm x m)) l < l.length ↔ HasNm l m := idxN_lt.trans (by simp [HasNm])
set_option maxHeartbeats 2000000 in
theorem add_a (v : Value) (i : Nat) (e : EvS) (m : MkS) (L : List MgE) (x : MgE) (hx : L[i]? = some x) (hm : MonoK x.marks m) (hl : x.marks.length ≤ 1024) :
  CallA Tryz.prog 160 [.agg (chC (.oe v 3 i 0) e m)] [arrR v 194 3 L mgeC, mgeR x] fun r own => ∃ w', r = it (addF x.marks m).1 ∧ own = [arrR v 194 3 (L.set i ⟨x.put, x.drop, w', (addF x.marks m).2⟩) mgeC, arrR w' 205 4 (addF x.marks m).2 mkC] := by
 have hcon := containsK_p (add1_p (.oe v 3 i 0) e m) rfl x.marks
 have hbin := binK_p x.marks m hm (by omega)
 have hsame : L.set i ⟨x.put, x.drop, x.w, x.marks⟩ = L := by
  have := (List.getElem?_eq_some_iff.1 hx)
  apply List.ext_getElem?
  intro j
  rw [List.getElem?_set]
  split
  ·rename_i hj;subst hj;rw [if_pos this.1, hx]
  ·rfl
 refine CallA.of pg ord160 Tryz.func160 rfl Tryz.ntmps160 Tryz.results160 rfl fun h0 G0 O0 => ?_
 repeat' (first|refine Sp.h ?_|refine Lk.r rfl ?_|refine Rf.mk rfl ?_|refine All.mk fun _=>?_|refine xU ?_|refine xT ?_|refine xJ ?_|fail)
 (apply Cl.lend (hcon);(focus repeat' (first|exact Lend.nil|apply Lend.keep|(apply Lend.lend;(focus repeat constructor);(focus first|omega|(simp;omega)))|(apply Lend.cell;(focus repeat constructor))|refine Lend.fn ?_ ?_|fail)))
 have hid := has_idx x.marks m
 by_cases hhas : HasNm x.marks m
 ·have h6 : addF x.marks m = (6, x.marks) := if_pos hhas
  have hlt := hid.2 hhas
  rw [h6]
  repeat' (first|refine Sp.h ?_|refine Lk.r rfl ?_|refine Rf.mk rfl ?_|refine xA ?_|refine xN ?_|fail)
  exact ⟨_, _, .one (.same (.z)), x.w, rfl, congrArg (fun z => [arrR v 194 3 z mgeC, mgeR x]) hsame.symm⟩
 ·have hlt : ¬ idxN (fun x => decide (Nm x m)) x.marks < x.marks.length := fun h => hhas (hid.1 h)
  by_cases hbig : 1024 ≤ x.marks.length
  ·have h8 : addF x.marks m = (8, x.marks) := by rw [addF, if_neg hhas, if_pos hbig]
   rw [h8]
   repeat' (first|refine Sp.h ?_|refine Lk.r rfl ?_|refine Rf.mk rfl ?_|refine xA ?_|refine xB ?_|refine xU ?_|refine xT ?_|refine xJ ?_|refine xN ?_|fail)
   exact ⟨_, _, .one (.same (.z)), x.w, rfl, congrArg (fun z => [arrR v 194 3 z mgeC, mgeR x]) hsame.symm⟩
  ·have h0 : addF x.marks m = (0, insK x.marks m) := by rw [addF, if_neg hhas, if_neg hbig]
   rw [h0]
   repeat' (first|refine Sp.h ?_|refine Lk.r rfl ?_|refine Rf.mk rfl ?_|refine xB ?_|refine OpK.r rfl ?_|refine xU ?_|refine xT ?_|refine xJ ?_|refine Ch.r ?_|refine xD ?_|fail)
   (apply Cl.lend (hbin);(focus repeat' (first|exact Lend.nil|apply Lend.keep|(apply Lend.lend;(focus repeat constructor);(focus first|omega|(simp;omega)))|fail)))
   (repeat' (first|(show CA _ _ (Code.region 6 _ _) _ _;apply Stopped.out)|refine Sp.h ?_|refine Lk.r rfl ?_|refine OpK.r rfl ?_|fail));any_goals apply Stopped.mk
   apply CA.retype (v := x.w) (m := x.marks.map mkV) (g := valR)
   focus (repeat constructor)
   focus exact mkV_map x.marks
   repeat' (first|refine Sp.h ?_|refine Lk.r rfl ?_|refine Rf.mk rfl ?_|refine OpK.r rfl ?_|refine All.mk fun _=>?_|refine xU ?_|refine xT ?_|refine xJ ?_|refine Ch.r ?_|(apply Fk.r;focus repeat' first|infer_instance|constructor)|refine Rf.mk ⟨rfl, rfl, rfl⟩ ?_|refine xD ?_|exact trivial|apply RA'.both|fail)
   all_goals
    rename_i u
    have hins := insertV_b x.w u (x.marks.map mkV) (mkV m) (mkC m) id rfl (posK x.marks m) (by rw [List.length_map];exact posK_le _ _) (by rw [List.length_map];omega)
    rw [← insK_map] at hins
    refine xW (hins) ?_
    rintro _ _ ⟨w', rfl, rfl⟩
    have inv : Inv mgeC [bl x.put, bl x.drop, .ow w'] ⟨x.put, x.drop, w', insK x.marks m⟩ := ⟨rfl⟩
    (repeat' (first|(show CA _ _ (Code.region 7 _ _) _ _;apply Stopped.out)|refine Sp.h ?_|refine Lk.r rfl ?_|refine Rf.mk rfl ?_|refine OpK.r rfl ?_|refine xU ?_|refine xT ?_|refine xJ ?_|refine xV ?_|(apply Up.inv;(focus repeat constructor);(focus infer_instance))|fail));any_goals apply Stopped.mk
    apply CA.retype (v := w') (m := insK x.marks m) (g := mkC)
    focus (repeat constructor)
    focus exact (mkV_map _).symm
    repeat' (first|refine Sp.h ?_|refine Lk.r rfl ?_|refine Rf.mk rfl ?_|refine xN ?_|fail)
    exact ⟨_, _, .one (.same (.z)), w', rfl, rfl⟩
end Go.Proofs.YtajenkpjcbaadaaGreat
namespace Go.Proofs.YtajenkpjcbaadaaGreat
open Go Go.CF
set_option maxRecDepth 20000
abbrev ChO (v : Value) (i : Nat) (L : List MgE) (p d : Bool) (l : List MkS) (own : List Res) : Prop := ∃ w', own = [arrR v 194 3 (L.set i ⟨p, d, w', l⟩) mgeC, arrR w' 205 4 l mkC]
noncomputable def fgK (past : List Int) (l : List MkS) : List MkS := l.filter fun x => !decide (HasC past x.rep x.num)
theorem forget1_p (kp : AV) (e : EvS) (m x : MkS) : CallP Tryz.prog 222 [mA x, .ad (chC kp e m) 0] (bl (decide (HasC e.past x.rep x.num))) := by
 refine CallA.of pg ord222 Tryz.func222 rfl Tryz.ntmps222 Tryz.results222 rfl fun h0 G0 O0 => ?_
 repeat' (first|refine Sp.h ?_|refine Lk.r rfl ?_|refine Rf.mk rfl ?_|refine OpK.r rfl ?_|refine All.mk fun _=>?_|refine xT ?_|refine Ch.l ⟨rfl, rfl⟩ ?_|refine xN ?_|refine xD ?_|(apply Cl.p (dot_p _);focus repeat' constructor)|(apply Cl.p (hasC_p _ _ _);focus repeat' constructor))
 exact Fin.p rfl rfl
theorem forget_a (v : Value) (i : Nat) (e : EvS) (m : MkS) (L : List MgE) (x : MgE) (hx : L[i]? = some x) (hl : x.marks.length ≤ 1024) :
  CallA Tryz.prog 205 [.agg (chC (.oe v 3 i 0) e m)] [arrR v 194 3 L mgeC, mgeR x] fun _ own => ChO v i L x.put x.drop (fgK e.past x.marks) own := by
 have hdel := deleteK_a (forget1_p (.oe v 3 i 0) e m) rfl x.w x.marks (by omega)
 refine CallA.of pg ord205 Tryz.func205 rfl Tryz.ntmps205 Tryz.results205 rfl fun h0 G0 O0 => ?_
 (repeat' (first|(show CA _ _ (Code.region 1 _ _) _ _;apply Stopped.out)|refine Sp.h ?_|refine Lk.r rfl ?_|refine Rf.mk rfl ?_|refine All.mk fun _=>?_|fail));any_goals apply Stopped.mk
 apply CA.freezeB 1
 focus rfl
 focus (repeat constructor)
 repeat' (first|refine Sp.h ?_|refine Lk.r rfl ?_|refine Rf.mk rfl ?_|refine OpK.r rfl ?_|refine xU ?_|refine xJ ?_|refine xD ?_|exact trivial|apply RA'.both|fail)
 all_goals
  refine xW (hdel) ?_
  rintro _ _ ⟨w', rfl, rfl⟩
  have inv : Inv mgeC [bl x.put, bl x.drop, .ow w'] ⟨x.put, x.drop, w', fgK e.past x.marks⟩ := ⟨rfl⟩
  repeat' (first|refine Sp.h ?_|refine Lk.r rfl ?_|refine Rf.mk rfl ?_|refine OpK.r rfl ?_|refine xU ?_|refine xJ ?_|refine xV ?_|refine xN ?_|(apply Up.inv;(focus repeat constructor);(focus infer_instance))|fail)
  exact ⟨_, _, .tup (.z), w', rfl⟩
theorem drop_a (v : Value) (i : Nat) (e : EvS) (m : MkS) (L : List MgE) (x : MgE) (hx : L[i]? = some x) (hl : x.marks.length ≤ 1024) :
  CallA Tryz.prog 161 [.agg (chC (.oe v 3 i 0) e m)] [arrR v 194 3 L mgeC, mgeR x] fun q own => q = it 0 ∧ ChO v i L false x.drop (fgK e.past x.marks) own := by
 have hi := (List.getElem?_eq_some_iff.1 hx).1
 have inv : Inv mgeC [bl false, bl x.drop, .ow x.w] ⟨false, x.drop, x.w, x.marks⟩ := ⟨rfl⟩
 have hf := forget_a v i e m (L.set i ⟨false, x.drop, x.w, x.marks⟩) ⟨false, x.drop, x.w, x.marks⟩ (by rw [List.getElem?_set, if_pos rfl, if_pos hi]) hl
 refine CallA.of pg ord161 Tryz.func161 rfl Tryz.ntmps161 Tryz.results161 rfl fun h0 G0 O0 => ?_
 repeat' (first|refine Sp.h ?_|refine Lk.r rfl ?_|refine Rf.mk rfl ?_|refine All.mk fun _=>?_|refine xU ?_|refine xT ?_|refine xJ ?_|refine Ch.l ⟨rfl, rfl⟩ ?_|refine xV ?_|(apply Up.inv;(focus repeat constructor);(focus infer_instance))|fail)
 refine xW (hf) ?_
 rintro _ _ ⟨w', rfl⟩
 rw [List.set_set]
 repeat' (first|refine Sp.h ?_|refine Lk.r rfl ?_|refine Rf.mk rfl ?_|refine xN ?_|fail)
 exact ⟨_, _, .one (.same (.z)), rfl, w', rfl⟩
theorem put_a (v : Value) (i : Nat) (e : EvS) (m : MkS) (L : List MgE) (x : MgE) (hx : L[i]? = some x) (hl : x.marks.length ≤ 1024) :
  CallA Tryz.prog 162 [.agg (chC (.oe v 3 i 0) e m)] [arrR v 194 3 L mgeC, mgeR x] fun q own => q = it 0 ∧ ChO v i L true false (fgK e.past x.marks) own := by
 have hi := (List.getElem?_eq_some_iff.1 hx).1
 have inv : Inv mgeC [bl true, bl x.drop, .ow x.w] ⟨true, x.drop, x.w, x.marks⟩ := ⟨rfl⟩
 have inv2 : Inv mgeC [bl true, bl false, .ow x.w] ⟨true, false, x.w, x.marks⟩ := ⟨rfl⟩
 have inv3 : Inv mgeC [bl x.put, bl false, .ow x.w] ⟨x.put, false, x.w, x.marks⟩ := ⟨rfl⟩
 have hf := forget_a v i e m (L.set i ⟨true, false, x.w, x.marks⟩) ⟨true, false, x.w, x.marks⟩ (by rw [List.getElem?_set, if_pos rfl, if_pos hi]) hl
 have hx1 : ∀ y : MgE, (L.set i y)[i]? = some y := fun y => by rw [List.getElem?_set, if_pos rfl, if_pos hi]
 have h1 := hx1 ⟨true, x.drop, x.w, x.marks⟩
 have h3 := hx1 ⟨x.put, false, x.w, x.marks⟩
 refine CallA.of pg ord162 Tryz.func162 rfl Tryz.ntmps162 Tryz.results162 rfl fun h0 G0 O0 => ?_
 repeat' (first|refine Sp.h ?_|refine Lk.r rfl ?_|refine Rf.mk rfl ?_|refine OpK.r rfl ?_|refine All.mk fun _=>?_|refine xU ?_|refine xT ?_|refine xJ ?_|refine Ch.l ⟨rfl, rfl⟩ ?_|refine xV ?_|(apply Up.inv;(focus repeat constructor);(focus infer_instance))|refine xD ?_|exact trivial|apply RA'.both|fail)
 all_goals rw [List.set_set]
 all_goals
  refine xW (hf) ?_
  rintro _ _ ⟨w', rfl⟩
  rw [List.set_set]
  repeat' (first|refine Sp.h ?_|refine Lk.r rfl ?_|refine Rf.mk rfl ?_|refine xN ?_|fail)
  exact ⟨_, _, .one (.same (.z)), rfl, w', rfl⟩
theorem multi_a (v : Value) (i : Nat) (e : EvS) (m : MkS) (L : List MgE) (x : MgE) (hx : L[i]? = some x) (hl : x.marks.length ≤ 1024) (hm : MonoK (fgK e.past x.marks) m) :
  CallA Tryz.prog 164 [.agg (chC (.oe v 3 i 0) e m)] [arrR v 194 3 L mgeC, mgeR x] fun q own => q = it (addF (fgK e.past x.marks) m).1 ∧ ChO v i L x.put x.drop (addF (fgK e.past x.marks) m).2 own := by
 have hi := (List.getElem?_eq_some_iff.1 hx).1
 have hf := forget_a v i e m L x hx hl
 have hle : (fgK e.past x.marks).length ≤ 1024 := Nat.le_trans (List.length_filter_le _ _) hl
 refine CallA.of pg ord164 Tryz.func164 rfl Tryz.ntmps164 Tryz.results164 rfl fun h0 G0 O0 => ?_
 repeat' (first|refine Sp.h ?_|refine Lk.r rfl ?_|refine Rf.mk rfl ?_|refine All.mk fun _=>?_|refine xT ?_|refine Ch.l ⟨rfl, rfl⟩ ?_|fail)
 refine xW (hf) ?_
 rintro _ _ ⟨w', rfl⟩
 have ha := add_a v i e m (L.set i ⟨x.put, x.drop, w', fgK e.past x.marks⟩) ⟨x.put, x.drop, w', fgK e.past x.marks⟩ (by rw [List.getElem?_set, if_pos rfl, if_pos hi]) hm hle
 repeat' (first|refine Sp.h ?_|refine Lk.r rfl ?_|refine Rf.mk rfl ?_|refine xT ?_|refine Ch.l ⟨rfl, rfl⟩ ?_|fail)
 refine xW (ha) ?_
 rintro _ _ ⟨w2, rfl, rfl⟩
 rw [List.set_set]
 repeat' (first|refine Sp.h ?_|refine Lk.r rfl ?_|refine xN ?_|fail)
 exact ⟨_, _, .one (.same (.z)), rfl, w2, rfl⟩
end Go.Proofs.YtajenkpjcbaadaaGreat
namespace Go.Proofs.YtajenkpjcbaadaaGreat
open Go Go.CF
set_option maxRecDepth 20000
abbrev fnV (g : FuncId) : AV := .fn g []
def rulesL : List (List Int × FuncId) := [([2, 0], 160), ([2, 1], 161), ([3, 0], 162), ([3, 1], 160), ([4, 2], 163), ([5, 2], 164)]
def rulesI (i : Nat) : List Int × FuncId := (rulesL[i / 2 - 1]?).getD ([], 0)
def rulesT : Ord := .one 1 (.one 3 (.one 5 (.one 7 (.one 9 (.one 11 (.one 0 (fillT (.one 13 (.one 14 .done)) 6 [2, 4, 6, 8, 10, 12])))))))
def rulesO : Nat → Ord × (Nat → Cls) := fun id => bif Nat.beq id 1 then (rulesT, clOf [.ext, .pure, .loud, .pure, .loud, .pure, .loud, .pure, .loud, .pure, .loud, .pure, .loud, .pure, .pure]) else (.done, clOf [])
set_option maxHeartbeats 1000000 in
theorem rules_a : CallA Tryz.prog 130 [] [] fun r own => ∃ b kvs, r = .val (.map (some b)) ∧ own = [mapR Tryz.prog b 202 kvs fnV] ∧ ∀ key, lookL kvs key = lookL rulesL key := by
 refine CallA.of pg rulesO Tryz.func130 rfl Tryz.ntmps130 Tryz.results130 rfl fun h0 G0 O0 => ?_
 (repeat' (first|(show CA _ _ (Code.region 1 _ _) _ _;apply Stopped.out)|refine Sp.h ?_|refine Lk.r rfl ?_|refine Rf.mk rfl ?_|fail));any_goals apply Stopped.mk
 apply CA.draw (t := rulesT)
 focus rfl
 focus kernel_rfl
 focus
  show (noDef _ && chkG _ _ rulesT 15 _ _) = true
  rw [Bool.and_eq_true]
  refine ⟨by kernel_rfl, ?_⟩
  refine chk_one (fuel := 14) (by kernel_rfl) (chk_one (fuel := 13) (by kernel_rfl) (chk_one (fuel := 12) (by kernel_rfl) (chk_one (fuel := 11) (by kernel_rfl) (chk_one (fuel := 10) (by kernel_rfl) (chk_one (fuel := 9) (by kernel_rfl) (chk_one (fuel := 8) (by kernel_rfl) ?_))))))
  exact chk_fill (fuel := 2) (ps0 := [2, 4, 6, 8, 10, 12]) (by decide) (by kernel_rfl)
 focus exact ON.refl _
 focus rfl
 unfold rulesT
 repeat' (first|refine Sp.h ?_|refine Lk.r rfl ?_|refine Rf.mk rfl ?_|refine OpK.r rfl ?_|(apply Fk.r;focus repeat' first|infer_instance|constructor)|fail)
 refine MkM.r fnV ?_
 repeat' (first|refine All.mk fun _=>?_|fail)
 apply RA'.fill rulesI [2, 4, 6, 8, 10, 12]
 ·decide
 ·intro i hi kvs r h
  simp only [List.mem_cons, List.not_mem_nil, or_false] at hi
  rcases hi with rfl|rfl|rfl|rfl|rfl|rfl
  all_goals repeat' (first|refine Sp.h ?_|refine Lk.r rfl ?_|refine Rf.mk rfl ?_|refine OpK.r rfl ?_|refine xK ?_|(apply Kf.mk;(focus kernel_rfl))|refine xM ?_|refine UpV.r rfl ?_|fail)
  all_goals exact h
 ·intro kvs hp
  have hlk : ∀ key, lookL kvs key = lookL rulesL key := fun key => lookL_perm hp (by decide) key
  repeat' (first|refine Sp.h ?_|refine Lk.r rfl ?_|refine OpK.r rfl ?_|refine xN ?_|fail)
  exact ⟨_, _, .one (.same (.z)), _, kvs, rfl, rfl, hlk⟩
end Go.Proofs.YtajenkpjcbaadaaGreat
namespace Go.Proofs.YtajenkpjcbaadaaGreat
open Go Go.CF
set_option maxRecDepth 20000
def cmp2 (a b : MkS) : Int := orI [cmpI a.time b.time, cmpI a.rep b.rep]
noncomputable def lastF (l : List MkS) (m : MkS) : Int × List MkS := match l with
 | [] => addF [] m
 | x :: r => (0, if cmp2 x m < 0 then m :: r else x :: r)
set_option maxHeartbeats 2000000 in
theorem last_a (v : Value) (i : Nat) (e : EvS) (m : MkS) (L : List MgE) (x : MgE) (hx : L[i]? = some x) (hl : x.marks.length ≤ 1024) :
  CallA Tryz.prog 163 [.agg (chC (.oe v 3 i 0) e m)] [arrR v 194 3 L mgeC, mgeR x] fun q own => q = it (lastF x.marks m).1 ∧ ChO v i L x.put x.drop (lastF x.marks m).2 own := by
 have hi := (List.getElem?_eq_some_iff.1 hx).1
 have hsame : L.set i ⟨x.put, x.drop, x.w, x.marks⟩ = L := by
  apply List.ext_getElem?
  intro j
  rw [List.getElem?_set]
  split
  ·rename_i hj;subst hj;first|rw [if_pos hi, hx] | rw [hx]
  ·rfl
 obtain ⟨p, d, w, l⟩ := x
 simp only at hl hsame
 match l, hl, hx, hsame with
 | [], hl, hx, hsame =>
  have ha := add_a v i e m L ⟨p, d, w, []⟩ hx (fun i j a b _ h => by simp at h) hl
  refine CallA.of pg ord163 Tryz.func163 rfl Tryz.ntmps163 Tryz.results163 rfl fun h0 G0 O0 => ?_
  repeat' (first|refine Sp.h ?_|refine Lk.r rfl ?_|refine Rf.mk rfl ?_|refine xA ?_|refine All.mk fun _=>?_|refine xU ?_|refine xT ?_|refine xJ ?_|refine Ch.l ⟨rfl, rfl⟩ ?_|fail)
  refine xW (ha) ?_
  rintro _ _ ⟨w2, rfl, rfl⟩
  repeat' (first|refine Sp.h ?_|refine Lk.r rfl ?_|refine xN ?_|fail)
  exact ⟨_, _, .one (.same (.z)), rfl, w2, rfl⟩
 | y :: r, hl, hx, hsame =>
  have h0 : (y :: r)[0]? = some y := rfl
  have hne : ¬ ((({ put := p, drop := d, w := w, marks := y :: r } : MgE).marks.length : Int) = 0) := by simp only [List.length_cons];omega
  have ho := orI_p [cmpI y.time m.time, cmpI y.rep m.rep]
  by_cases hc : cmp2 y m < 0
  ·have hF : lastF (y :: r) m = (0, m :: r) := by simp [lastF, hc]
   have hc2 : orI [cmpI y.time m.time, cmpI y.rep m.rep] < 0 := hc
   rw [hF]
   refine CallA.of pg ord163 Tryz.func163 rfl Tryz.ntmps163 Tryz.results163 rfl fun h0 G0 O0 => ?_
   repeat' (first|refine Sp.h ?_|refine Lk.r rfl ?_|refine Rf.mk rfl ?_|refine xB ?_|refine OpK.r rfl ?_|refine All.mk fun _=>?_|refine xU ?_|refine xT ?_|refine xI ?_|refine xJ ?_|refine Ch.l ⟨rfl, rfl⟩ ?_|(apply SetAsk.r;focus repeat' constructor)|(apply Fk.r;focus repeat' first|infer_instance|constructor)|refine xN ?_|refine Rf.mk ⟨rfl, rfl, rfl⟩ ?_|refine xD ?_|(apply Cl.p (compareI_p _ _);focus repeat' constructor))
   (apply Cl.lend (ho);(focus repeat' (first|exact Lend.nil|(apply Lend.lendm;(focus repeat constructor);(focus rfl);(focus first|omega|decide|(simp;omega)|exact Nat.le_of_ble_eq_true rfl))|fail)))
   (repeat' (first|(show CA _ _ (Code.region 6 _ _) _ _;apply Stopped.out)|refine Sp.h ?_|refine Lk.r rfl ?_|refine Rf.mk rfl ?_|refine xA ?_|refine OpK.r rfl ?_|refine xU ?_|refine xT ?_|refine xI ?_|refine xJ ?_|refine Ch.r ?_|(apply SetAsk.r;focus repeat' constructor)|refine Up.r rfl ?_|refine xD ?_|fail));any_goals apply Stopped.mk
   have hmap : (L.set i ⟨p, d, w, m :: r⟩).map mgeC = L.map mgeC := by
    rw [List.map_set]
    show (L.map mgeC).set i (mgeC ⟨p, d, w, y :: r⟩) = L.map mgeC
    rw [← List.map_set, hsame]
   apply CA.retype (v := v) (m := L.set i ⟨p, d, w, m :: r⟩) (g := mgeC)
   focus (repeat constructor)
   focus exact hmap
   repeat' (first|refine Sp.h ?_|refine Lk.r rfl ?_|refine Rf.mk rfl ?_|refine xN ?_|fail)
   exact ⟨_, _, .one (.same (.z)), rfl, w, rfl⟩
  ·have hF : lastF (y :: r) m = (0, y :: r) := by simp [lastF, hc]
   have hc2 : ¬ orI [cmpI y.time m.time, cmpI y.rep m.rep] < 0 := hc
   rw [hF]
   refine CallA.of pg ord163 Tryz.func163 rfl Tryz.ntmps163 Tryz.results163 rfl fun h0 G0 O0 => ?_
   repeat' (first|refine Sp.h ?_|refine Lk.r rfl ?_|refine Rf.mk rfl ?_|refine xB ?_|refine OpK.r rfl ?_|refine All.mk fun _=>?_|refine xU ?_|refine xT ?_|refine xI ?_|refine xJ ?_|refine Ch.l ⟨rfl, rfl⟩ ?_|(apply SetAsk.r;focus repeat' constructor)|(apply Fk.r;focus repeat' first|infer_instance|constructor)|refine xN ?_|refine Rf.mk ⟨rfl, rfl, rfl⟩ ?_|refine xD ?_|(apply Cl.p (compareI_p _ _);focus repeat' constructor))
   (apply Cl.lend (ho);(focus repeat' (first|exact Lend.nil|(apply Lend.lendm;(focus repeat constructor);(focus rfl);(focus first|omega|decide|(simp;omega)|exact Nat.le_of_ble_eq_true rfl))|fail)))
   repeat' (first|refine Sp.h ?_|refine Lk.r rfl ?_|refine Rf.mk rfl ?_|refine xB ?_|refine OpK.r rfl ?_|refine xN ?_|fail)
   all_goals exact ⟨_, _, .one (.same (.z)), rfl, w, congrArg (fun z => [arrR v 194 3 z mgeC, arrR w 205 4 (y :: r) mkC]) (hsame).symm⟩
end Go.Proofs.YtajenkpjcbaadaaGreat
namespace Go.Proofs.YtajenkpjcbaadaaGreat
open Go Go.CF
set_option maxRecDepth 20000
def EvV (m : ModS) (n : Int) (e : EvS) : Prop := FormedE e ∧ (e.past.length : Int) = n ∧ (e.kind = 0 → e.action < (m.acts.length : Nat))
noncomputable instance (m : ModS) (n : Int) (e : EvS) : Decidable (EvV m n e) := Classical.propDecidable _
theorem evalid_p (m : ModS) (n : Int) (e : EvS) : CallP Tryz.prog 35 [mdl m, it n, evA' e] (bl (decide (EvV m n e))) := by
 have hf := formed_p e
 refine CallA.of pg ord35 Tryz.func35 rfl Tryz.ntmps35 Tryz.results35 rfl fun h0 G0 O0 => ?_
 repeat' (first|refine Sp.h ?_|refine Lk.r rfl ?_|refine Rf.mk rfl ?_|refine xA ?_|refine xB ?_|(refine Bd.mk ?_ ?_ <;> intro _)|refine Im.mk fun _=>?_|refine All.mk fun _=>?_|refine xT ?_|refine Ch.l ⟨rfl, rfl⟩ ?_|refine xN ?_|(apply Cl.p (hf);focus repeat' constructor))
 all_goals refine Fin.p rfl (vb ?_)
 all_goals first
  | exact (decide_eq_false (fun h => by
    obtain ⟨h1, h2, h3⟩ := h
    first
     | exact absurd h1 (by assumption)
     | omega)).symm
  | exact (decide_eq_true ⟨by assumption, by omega, by omega⟩).symm
  | exact decide_eq_decide.2 ⟨fun h => ⟨by assumption, by omega, by omega⟩, fun h => by
    obtain ⟨h1, h2, h3⟩ := h
    omega⟩
  | skip
abbrev UpS := Int × Int × Int
def updF (us : List UpS) (c : Int) : Option UpS := us.reverse.find? fun u => decide (u.2.1 = c)
def updT (us : List UpS) : List (List Int × UpS) := us.foldl (fun kvs u => updL kvs [u.2.1] u) []
theorem updT_look (us : List UpS) (c : Int) : lookL (updT us) [c] = updF us c := by
 have key : ∀ us : List UpS, lookL (updT us.reverse) [c] = updF us.reverse c := by
  intro us
  induction us with
  | nil => rfl
  | cons u us ih =>
   rw [List.reverse_cons, updT, List.foldl_append, updF, List.reverse_append]
   simp only [List.foldl_cons, List.foldl_nil, List.reverse_cons, List.reverse_nil, List.nil_append, List.cons_append, List.find?_cons]
   rw [lookL_upd]
   by_cases h : u.2.1 = c
   ·simp [h]
   ·have h2 : ¬ [c] = [u.2.1] := by simpa using fun h9 : c = u.2.1 => h h9.symm
    rw [if_neg h2]
    simp only [h, decide_false]
    exact ih
 have := key us.reverse
 rwa [List.reverse_reverse] at this
theorem rules_cases (a b : Int) : lookL rulesL [a, b] = none ∨ (a = 2 ∧ b = 0 ∧ lookL rulesL [a, b] = some 160) ∨ (a = 2 ∧ b = 1 ∧ lookL rulesL [a, b] = some 161) ∨ (a = 3 ∧ b = 0 ∧ lookL rulesL [a, b] = some 162)
  ∨ (a = 3 ∧ b = 1 ∧ lookL rulesL [a, b] = some 160) ∨ (a = 4 ∧ b = 2 ∧ lookL rulesL [a, b] = some 163) ∨ (a = 5 ∧ b = 2 ∧ lookL rulesL [a, b] = some 164) := by
 cases h : lookL rulesL [a, b] with
 | none => exact .inl rfl
 | some g =>
  refine .inr ?_
  have hm := List.mem_of_find?_eq_some (p := fun p : List Int × FuncId => decide (p.1 = [a, b])) (l := rulesL) (a := ([a, b], g)) (by
   unfold lookL at h
   cases h9 : rulesL.find? (fun p => decide (p.1 = [a, b])) with
   | none => rw [h9] at h;cases h
   | some q =>
    rw [h9] at h
    have h1 : q.1 = [a, b] := by simpa using List.find?_some h9
    have h2 : q.2 = g := by simpa using h
    rw [← h1, ← h2])
  simp only [rulesL, List.mem_cons, Prod.mk.injEq, List.cons.injEq, List.not_mem_nil, or_false, and_true] at hm
  rcases hm with ⟨⟨h1, h2⟩, h3⟩|⟨⟨h1, h2⟩, h3⟩|⟨⟨h1, h2⟩, h3⟩|⟨⟨h1, h2⟩, h3⟩|⟨⟨h1, h2⟩, h3⟩|⟨⟨h1, h2⟩, h3⟩ <;> subst h1 <;> subst h2 <;> subst h3 <;> simp
theorem LtK.trans {a b c : MkS} (h1 : LtK a b) (h2 : LtK b c) : LtK a c := by unfold LtK at *;omega
theorem LtK.cotrans {a b : MkS} (c : MkS) (h : LtK a b) : LtK a c ∨ LtK c b := by unfold LtK at *;omega
def SrtK (l : List MkS) : Prop := l.Pairwise fun a b => ¬ LtK b a
theorem SrtK.mono {l : List MkS} (h : SrtK l) (m : MkS) : MonoK l m := by
 intro i j a b hij ha hb hlt
 rcases Nat.lt_or_ge i j with h1|h1
 ·have hi := (List.getElem?_eq_some_iff.1 ha)
  have hj := (List.getElem?_eq_some_iff.1 hb)
  have := List.pairwise_iff_getElem.1 h i j hi.1 hj.1 h1
  rw [hi.2, hj.2] at this
  rcases hlt.cotrans a with h2|h2
  ·exact absurd h2 this
  ·exact h2
 ·have : i = j := by omega
  subst this
  rw [ha] at hb;cases hb;exact hlt
theorem srt_of {l : List MkS} (h : ∀ (i : Nat) (x y : MkS), l[i]? = some x → l[i + 1]? = some y → ¬ LtK y x) : SrtK l := by
 induction l with
 | nil => exact List.Pairwise.nil
 | cons a l ih =>
  have hl : SrtK l := ih fun i x y hx hy => h (i + 1) x y hx hy
  refine List.pairwise_cons.2 ⟨fun b hb => ?_, hl⟩
  match l, hl, h with
  | [], _, _ => cases hb
  | c :: l, hl, h =>
   have h0 := h 0 a c rfl rfl
   rcases List.mem_cons.1 hb with rfl|hb
   ·exact h0
   ·have h1 := (List.pairwise_cons.1 hl).1 b hb
    intro h2
    rcases h2.cotrans c with h3|h3
    ·exact h1 h3
    ·exact h0 h3
theorem ValG.srt {t : TblS} {g : MgS} (h : ValG t g) : SrtK g.marks := by
 refine srt_of fun i x y hx hy => ?_
 have hi := (List.getElem?_eq_some_iff.1 hy).1
 exact (h.2 (i + 1) y hi hy).2.2 x (by omega) (by simpa using hx)
theorem SrtK.filter {l : List MkS} (h : SrtK l) (p : MkS → Bool) : SrtK (l.filter p) := List.Pairwise.filter p h
noncomputable def cellF (e : EvS) (t : TblS) (u : Option UpS) (g : MgS) : Int × MgS := match u with
 | none => (0, g)
 | some u =>
  let m : MkS := ⟨e.rep, e.num, e.time, if isReg t.kind then u.2.2 else 0⟩
  if t.kind = 2 ∧ u.1 = 0 ∨ t.kind = 3 ∧ u.1 = 1 then ((addF g.marks m).1, ⟨g.put, g.drop, (addF g.marks m).2⟩)
  else if t.kind = 2 ∧ u.1 = 1 then (0, ⟨false, g.drop, fgK e.past g.marks⟩)
  else if t.kind = 3 ∧ u.1 = 0 then (0, ⟨true, false, fgK e.past g.marks⟩)
  else if t.kind = 4 ∧ u.1 = 2 then ((lastF g.marks m).1, ⟨g.put, g.drop, (lastF g.marks m).2⟩)
  else if t.kind = 5 ∧ u.1 = 2 then ((addF (fgK e.past g.marks) m).1, ⟨g.put, g.drop, (addF (fgK e.past g.marks) m).2⟩)
  else (0, g)
end Go.Proofs.YtajenkpjcbaadaaGreat
namespace Go.Proofs.YtajenkpjcbaadaaGreat
open Go Go.CF
set_option maxRecDepth 20000
instance {v : Value} {sz j r : Nat} : OneA (.oe v sz j r) := ⟨by rintro h G u ⟨b, o, len, cap, _, rfl⟩;rfl⟩
def usF (m : ModS) (e : EvS) : List UpS := match m.acts[e.action.toNat]? with
 | some a => a.eff.updates
 | none => []
noncomputable def cellsF (ts : List TblS) (l : List MgS) (us : List UpS) (e : EvS) : List (Int × MgS) := (List.range l.length).map fun (i : Nat) => match ts[i]?, l[i]? with
 | some t, some g => cellF e t (updF us i) g
 | _, _ => (0, ⟨false, false, []⟩)
theorem cellsF_at {ts : List TblS} {l : List MgS} {us : List UpS} {e : EvS} {i : Nat} {t : TblS} {g : MgS} (ht : ts[i]? = some t) (hg : l[i]? = some g) : (cellsF ts l us e)[i]? = some (cellF e t (updF us i) g) := by
 have hi := (List.getElem?_eq_some_iff.1 hg).1
 rw [cellsF, List.getElem?_map, List.getElem?_range hi, Option.map_some, ht, hg]
theorem cellsF_len {ts : List TblS} {l : List MgS} {us : List UpS} {e : EvS} : (cellsF ts l us e).length = l.length := by simp [cellsF]
noncomputable def gatherF (C : List (Int × MgS)) : Int × List MgS := match C.find? fun p => decide (p.1 ≠ 0 ∧ p.1 ≠ 8) with
 | some p => (p.1, [])
 | none => if ∃ p ∈ C, p.1 = 8 then (8, []) else (0, C.map (·.2))
noncomputable def applyF (m : ModS) (l : List MgS) (e : EvS) : Int × List MgS :=
 if ¬ (ValL (mrgF m) l ∧ EvV m (e.past.length : Nat) e) then (1, [])
 else if e.kind ≠ 0 then (0, l)
 else gatherF (cellsF (mrgF m) l (usF m e) e)
theorem updT_succ {us : List UpS} {i : Nat} {u : UpS} (h : us[i]? = some u) : updT (us.take (i + 1)) = updL (updT (us.take i)) [u.2.1] u := by
 rw [List.take_add_one, h, updT, List.foldl_append];rfl
theorem gather_bad {C : List (Int × MgS)} {i : Nat} {q : Int × MgS} (hq : C[i]? = some q) (h1 : ∀ p ∈ C.take i, p.1 = 0 ∨ p.1 = 8) (h2 : q.1 ≠ 0) (h3 : q.1 ≠ 8) : gatherF C = (q.1, []) := by
 have hf : C.find? (fun p => decide (p.1 ≠ 0 ∧ p.1 ≠ 8)) = some q := find_at hq (by simp [h2, h3]) fun j y hj hy => by
  have := h1 y (List.mem_of_getElem? (i := j) (by rw [List.getElem?_take, if_pos hj];exact hy))
  rcases this with h|h <;> simp [h]
 rw [gatherF, hf]
theorem gather_end {C : List (Int × MgS)} (h1 : ∀ p ∈ C, p.1 = 0 ∨ p.1 = 8) : gatherF C = if ∃ p ∈ C, p.1 = 8 then (8, []) else (0, C.map (·.2)) := by
 have hf : C.find? (fun p => decide (p.1 ≠ 0 ∧ p.1 ≠ 8)) = none := List.find?_eq_none.2 fun p hp => by
  rcases h1 p hp with h|h <;> simp [h]
 rw [gatherF, hf]
theorem cellF_none {e : EvS} {t : TblS} {u : UpS} {g : MgS} (h : lookL rulesL [t.kind, u.1] = none) : cellF e t (some u) g = (0, g) := by
 have no : ∀ a b : Int, t.kind = a ∧ u.1 = b → lookL rulesL [a, b] = none := fun a b ⟨h1, h2⟩ => by rw [← h1, ← h2];exact h
 have n1 : ¬ (t.kind = 2 ∧ u.1 = 0) := fun h9 => absurd (no _ _ h9) (by decide)
 have n2 : ¬ (t.kind = 3 ∧ u.1 = 1) := fun h9 => absurd (no _ _ h9) (by decide)
 have n3 : ¬ (t.kind = 2 ∧ u.1 = 1) := fun h9 => absurd (no _ _ h9) (by decide)
 have n4 : ¬ (t.kind = 3 ∧ u.1 = 0) := fun h9 => absurd (no _ _ h9) (by decide)
 have n5 : ¬ (t.kind = 4 ∧ u.1 = 2) := fun h9 => absurd (no _ _ h9) (by decide)
 have n6 : ¬ (t.kind = 5 ∧ u.1 = 2) := fun h9 => absurd (no _ _ h9) (by decide)
 simp only [cellF, n1, n2, n3, n4, n5, n6, or_self, if_false]
def ApK (q : Int × List MgS) (r : AV) (own : List Res) : Prop :=
 (∃ v L, q.1 = 0 ∧ r = .tup [.ow v, it 0] ∧ own = outR v L ∧ L.map MgE.g = q.2) ∨ (q.1 ≠ 0 ∧ r = .tup [.val (.slice none 0 0), it q.1] ∧ own = [])
set_option maxHeartbeats 4000000 in
theorem apply_a (m : ModS) (l : List MgS) (e : EvS) (hm : MOK m) : CallA Tryz.prog 73 [mdl m, mgs l, evA' e] [] (ApK (applyF m l e)) := by
 have hva := validM_p m l hm.lay
 have hev := evalid_p m (e.past.length : Nat) e
 by_cases hv : ValL (mrgF m) l ∧ EvV m (e.past.length : Nat) e
 rotate_left
 ·have hF : applyF m l e = (1, []) := if_pos hv
  rw [hF]
  refine CallA.of pg ord73 Tryz.func73 rfl Tryz.ntmps73 Tryz.results73 rfl fun h0 G0 O0 => ?_
  by_cases h1 : ValL (mrgF m) l
  ·have h2 : ¬ EvV m (e.past.length : Nat) e := fun h => hv ⟨h1, h⟩
   repeat' (first|refine Sp.h ?_|refine Lk.r rfl ?_|refine Rf.mk rfl ?_|refine xA ?_|refine xB ?_|refine Im.mk fun _=>?_|refine All.mk fun _=>?_|refine xT ?_|refine Ch.l ⟨rfl, rfl⟩ ?_|refine xN ?_|(apply Cl.p (hva);focus repeat' constructor)|(apply Cl.p (hev);focus repeat' constructor))
   exact ⟨_, _, .tup (.same (.same (.z))), .inr ⟨by decide, rfl, rfl⟩⟩
  ·repeat' (first|refine Sp.h ?_|refine Lk.r rfl ?_|refine Rf.mk rfl ?_|refine xB ?_|refine All.mk fun _=>?_|refine xT ?_|refine Ch.l ⟨rfl, rfl⟩ ?_|refine xN ?_|(apply Cl.p (hva);focus repeat' constructor)|(apply Cl.p (hev);focus repeat' constructor))
   exact ⟨_, _, .tup (.same (.same (.z))), .inr ⟨by decide, rfl, rfl⟩⟩
 obtain ⟨h1, h2⟩ := hv
 have hl : l.length ≤ 20 := by have := h1.1;have := hm.mrg;omega
 have hg : ∀ (i : Nat) g, l[i]? = some g → ∃ t, (mrgF m)[i]? = some t ∧ ValG t g := fun i g hi => by
  obtain ⟨t, ht⟩ := get_of (l := mrgF m) (i := i) (by have := h1.1;have := (List.getElem?_eq_some_iff.1 hi).1;omega)
  exact ⟨t, ht, h1.2 i t g ht hi⟩
 have hcl := clone34_a l (by omega) (fun g hgm => by
  obtain ⟨i, hi⟩ := List.getElem?_of_mem hgm
  obtain ⟨t, _, hv⟩ := hg i g hi
  have := hv.1.2.2.2
  omega)
 have hce := cells_p m hm.lay
 have hru := rules_a
 by_cases hk : e.kind = 0
 rotate_left
 ·have hF : applyF m l e = (0, l) := by rw [applyF, if_neg (fun h => h ⟨h1, h2⟩), if_pos hk]
  rw [hF]
  refine CallA.of pg ord73 Tryz.func73 rfl Tryz.ntmps73 Tryz.results73 rfl fun h0 G0 O0 => ?_
  repeat' (first|refine Sp.h ?_|refine Lk.r rfl ?_|refine Rf.mk rfl ?_|refine xA ?_|refine Im.mk fun _=>?_|refine All.mk fun _=>?_|refine xT ?_|refine Ch.l ⟨rfl, rfl⟩ ?_|(apply Cl.p (hva);focus repeat' constructor)|(apply Cl.p (hev);focus repeat' constructor))
  refine xW (hcl) ?_
  rintro _ _ ⟨v, L, rfl, hL, rfl⟩
  repeat' (first|refine Sp.h ?_|refine Lk.r rfl ?_|refine Rf.mk rfl ?_|refine xB ?_|refine xT ?_|refine xN ?_|fail)
  exact ⟨_, _, .tup (.same (.same (.z))), .inl ⟨v, L, rfl, rfl, rfl, hL⟩⟩
 have hF : applyF m l e = gatherF (cellsF (mrgF m) l (usF m e) e) := by rw [applyF, if_neg (fun h => h ⟨h1, h2⟩), if_neg (fun h => h hk)]
 rw [hF]
 have ha1 : 0 ≤ e.action := by
  have h9 := h2.1.2.2.2.2.2
  simp only [KindOK, Sub0, Btw] at h9
  omega
 have ha2 := h2.2.2 hk
 obtain ⟨a, ha⟩ := get_of (l := m.acts) (i := e.action.toNat) (by omega)
 obtain ⟨n, hn⟩ : ∃ n : Nat, e.action = n := ⟨e.action.toNat, by omega⟩
 have hus : usF m e = a.eff.updates := by rw [usF, ha]
 rw [hn] at ha
 rw [hus]
 have ha3 : m.acts[n]? = some a := by simpa using ha
 refine CallA.of pg ord73 Tryz.func73 rfl Tryz.ntmps73 Tryz.results73 rfl fun h0 G0 O0 => ?_
 repeat' (first|refine Sp.h ?_|refine Lk.r rfl ?_|refine Rf.mk rfl ?_|refine xA ?_|refine Im.mk fun _=>?_|refine All.mk fun _=>?_|refine xT ?_|refine Ch.l ⟨rfl, rfl⟩ ?_|(apply Cl.p (hva);focus repeat' constructor)|(apply Cl.p (hev);focus repeat' constructor))
 refine xW (hcl) ?_
 rintro _ _ ⟨v, L0, rfl, hL, rfl⟩
 repeat' (first|refine Sp.h ?_|refine Lk.r rfl ?_|refine Rf.mk rfl ?_|refine xA ?_|refine xT ?_|refine Ch.l ⟨rfl, rfl⟩ ?_|(apply Cl.p (hce);focus repeat' constructor))
 (apply Cl.use (hru);(focus repeat' (first|exact Lend.nil|fail));(focus (repeat (first|exact Takes.nil|(apply Takes.cons;(focus repeat constructor)))));(focus rfl))
 rintro _ _ ⟨br, kvs, rfl, rfl, hlk⟩
 repeat' (first|refine Sp.h ?_|refine Lk.r rfl ?_|refine Rf.mk rfl ?_|fail)
 refine MkM.r (fun u : UpS => AV.agg (updC u)) ?_
 repeat' (first|refine Sp.h ?_|refine Lk.r rfl ?_|refine Rf.mk rfl ?_|refine Im.mk fun _=>?_|refine All.mk fun _=>?_|refine xT ?_|(apply Ix.r;(focus assumption);(focus omega))|fail)
 refine CA.loop (fun i : Nat => ⟨[(5, pm _), (8, .ow v), (9, tbls (mrgF m)), (10, .val (.map (some br))), (11, .val (.map (some _))), (12, bl false), (53, .sl 3 a.eff.updates updC), (54, it (a.eff.updates.length : Nat)), (55, it i)],
   [arrR v 194 3 L0 mgeC, bunR (L0.map mgeR), mapR Tryz.prog br 202 kvs fnV, mapR Tryz.prog _ 3 (updT (a.eff.updates.take i)) (fun u : UpS => AV.agg (updC u)), blkR _ 40 (evC e)]⟩)
  (fun i => i ≤ a.eff.updates.length) (fun i => a.eff.updates.length - i) 0 xE (Nat.zero_le _) ?_
 intro i hi
 by_cases hin : i < a.eff.updates.length
 ·obtain ⟨u, hu⟩ := get_of hin
  have hsu := updT_succ hu
  repeat' (first|refine Sp.h ?_|refine Lk.r rfl ?_|refine Rf.mk rfl ?_|refine xA ?_|refine All.mk fun _=>?_|refine xT ?_|refine xI ?_|refine Ch.l ⟨rfl, rfl⟩ ?_|(apply SetAsk.r;focus repeat' constructor)|refine xN ?_|(apply Kf.mk;(focus kernel_rfl))|refine xM ?_|refine UpV.r rfl ?_|refine xO ?_|fail)
  rw [← hsu]
  exact PA.lp (i + 1) xE ⟨hin, by omega⟩
 ·have hie : i = a.eff.updates.length := by omega
  subst hie
  rw [List.take_length]
  have hlen : (mrgF m).length = l.length := h1.1
  obtain ⟨C, hC⟩ : ∃ C, C = cellsF (mrgF m) l a.eff.updates e := ⟨_, rfl⟩
  rw [← hC]
  (repeat' (first|(show CA _ _ (Code.region 13 _ _) _ _;apply Stopped.out)|refine Sp.h ?_|refine Lk.r rfl ?_|refine Rf.mk rfl ?_|refine xB ?_|fail));any_goals apply Stopped.mk
  refine CA.sub ⟨[(5, pm _), (8, .ow v), (9, tbls (mrgF m)), (10, .val (.map (some br))), (11, .val (.map (some _))), (12, bl false)],
   [arrR v 194 3 L0 mgeC, bunR (L0.map mgeR), mapR Tryz.prog br 202 kvs fnV, mapR Tryz.prog _ 3 (updT a.eff.updates) (fun u : UpS => AV.agg (updC u)), blkR _ 40 (evC e)]⟩ xE ?_
  repeat' (first|refine Sp.h ?_|refine Lk.r rfl ?_|refine Rf.mk rfl ?_|refine Im.mk fun _=>?_|fail)
  rename_i b5 _ bu _ _
  refine CA.loop (fun x : Nat × List MgE × Bool => ⟨[(5, pm b5), (8, .ow v), (10, .val (.map (some br))), (11, .val (.map (some bu))), (12, bl x.2.2), (64, tbls (mrgF m)), (65, it ((mrgF m).length : Nat)), (66, it x.1)],
    [arrR v 194 3 x.2.1 mgeC, bunR (x.2.1.map mgeR), mapR Tryz.prog br 202 kvs fnV, mapR Tryz.prog bu 3 (updT a.eff.updates) (fun u : UpS => AV.agg (updC u)), blkR b5 40 (evC e)]⟩)
   (fun x => x.1 ≤ l.length ∧ x.2.1.map MgE.g = (C.take x.1).map (·.2) ++ l.drop x.1 ∧ (∀ p ∈ C.take x.1, p.1 = 0 ∨ p.1 = 8) ∧ (x.2.2 = true ↔ ∃ p ∈ C.take x.1, p.1 = 8)) (fun x => l.length - x.1) (0, L0, false) xE ⟨Nat.zero_le _, by simpa using hL, by simp, by simp⟩ ?_
  rintro ⟨i, D, lg⟩ ⟨g1, g2, g3, g4⟩
  simp only at g1 g2 g3 g4
  simp only
  by_cases hin : i < l.length
  ·obtain ⟨g, hgi⟩ := get_of hin
   obtain ⟨t, hti, hvg⟩ := hg i g hgi
   have hq : C[i]? = some (cellF e t (updF a.eff.updates i) g) := by rw [hC];exact cellsF_at hti hgi
   have htl : (C.take i).length = i := by have := (List.getElem?_eq_some_iff.1 hq).1;simp;omega
   have hDi : (D.map MgE.g)[i]? = some g := by
    rw [g2, List.getElem?_append_right (by simp;omega), List.getElem?_drop, List.length_map, htl]
    simpa using hgi
   obtain ⟨x, hx, hxg⟩ : ∃ x, D[i]? = some x ∧ x.g = g := by
    rw [List.getElem?_map] at hDi
    cases hd : D[i]? with
    | none => rw [hd] at hDi;cases hDi
    | some x => rw [hd] at hDi;exact ⟨x, rfl, by simpa using hDi⟩
   have hDl := (List.getElem?_eq_some_iff.1 hx).1
   have hml : x.marks.length ≤ 1024 := by have := hvg.1.2.2.2;rw [← hxg] at this;exact this
   have hsrt : SrtK x.marks := by have := hvg.srt;rw [← hxg] at this;exact this
   have hreg := register_p t
   have hlu := updT_look a.eff.updates i
   have hbad : ∀ c y, cellF e t (updF a.eff.updates i) g = (c, y) → c ≠ 0 → c ≠ 8 → gatherF C = (c, []) := fun c y h h0 h8 => gather_bad (h ▸ hq) g3 h0 h8
   have hsame : D.set i x = D := by
    apply List.ext_getElem?
    intro j
    rw [List.getElem?_set]
    split
    ·rename_i hj;subst hj;first|rw [if_pos hDl, hx] | rw [hx]
    ·rfl
   (repeat' (first|(show CA _ _ (Code.block 3 _) _ _;apply Stopped.out)|refine Sp.h ?_|refine Lk.r rfl ?_|refine Rf.mk rfl ?_|refine xA ?_|fail));any_goals apply Stopped.mk
   apply CA.bunTake (l := D) (g := mgeR) (i := i) (x := x)
   focus (repeat constructor)
   focus exact hx
   refine CA.cut (fun p : List MgE × MgE × Bool => ⟨[(5, pm b5), (8, .ow v), (10, .val (.map (some br))), (11, .val (.map (some bu))), (12, bl p.2.2), (64, tbls (mrgF m)), (65, it ((mrgF m).length : Nat)), (66, it i)],
    [arrR v 194 3 p.1 mgeC, mgeR p.2.1, bunR ((D.eraseIdx i).map mgeR), mapR Tryz.prog br 202 kvs fnV, mapR Tryz.prog bu 3 (updT a.eff.updates) (fun u : UpS => AV.agg (updC u)), blkR b5 40 (evC e)]⟩)
    (fun p => p.1 = D.set i p.2.1 ∧ p.2.1.g = (cellF e t (updF a.eff.updates i) g).2 ∧ ((cellF e t (updF a.eff.updates i) g).1 = 0 ∧ p.2.2 = lg ∨ (cellF e t (updF a.eff.updates i) g).1 = 8 ∧ p.2.2 = true)) ?_ ?_
   ·cases hup : updF a.eff.updates i with
    | none =>
     rw [hup] at hlu
     rcases hz : lookL rulesL [t.kind, 0] with _|f0
     ·rw [← hlk] at hz
      repeat' (first|refine Sp.h ?_|refine Lk.r rfl ?_|refine Rf.mk rfl ?_|refine xB ?_|refine All.mk fun _=>?_|refine xT ?_|refine xI ?_|refine Ch.l ⟨rfl, rfl⟩ ?_|(apply SetAsk.r;focus repeat' constructor)|(apply Fk.r;focus repeat' first|infer_instance|constructor)|refine xN ?_|refine xK ?_|(apply Kf.mk;(focus kernel_rfl))|refine xM ?_|(apply Zx.agg;(focus rfl);(focus rfl);(focus repeat constructor))|apply Zx.one|(apply LkM.n;(focus first|assumption|rfl))|fail)
      all_goals exact PA.lp (D, x, lg) xE ⟨hsame.symm, hxg, .inl ⟨rfl, rfl⟩⟩
     ·rw [← hlk] at hz
      repeat' (first|refine Sp.h ?_|refine Lk.r rfl ?_|refine Rf.mk rfl ?_|refine xB ?_|refine All.mk fun _=>?_|refine xT ?_|refine xI ?_|refine Ch.l ⟨rfl, rfl⟩ ?_|(apply SetAsk.r;focus repeat' constructor)|(apply Fk.r;focus repeat' first|infer_instance|constructor)|refine xN ?_|refine xK ?_|(apply Kf.mk;(focus kernel_rfl))|refine xM ?_|(apply Zx.agg;(focus rfl);(focus rfl);(focus repeat constructor))|(apply LkM.s;(focus first|assumption|rfl))|(apply LkM.n;(focus first|assumption|rfl))|fail)
      all_goals exact PA.lp (D, x, lg) xE ⟨hsame.symm, hxg, .inl ⟨rfl, rfl⟩⟩
    | some u =>
     obtain ⟨uk, uc, uv⟩ := u
     rw [hup] at hlu hbad
     rcases rules_cases t.kind uk with hz|⟨k1, k2, hz⟩|⟨k1, k2, hz⟩|⟨k1, k2, hz⟩|⟨k1, k2, hz⟩|⟨k1, k2, hz⟩|⟨k1, k2, hz⟩
     ·have hcell := cellF_none (e := e) (g := g) (u := (uk, uc, uv)) hz
      rw [← hlk] at hz
      repeat' (first|refine Sp.h ?_|refine Lk.r rfl ?_|refine Rf.mk rfl ?_|refine xA ?_|refine xB ?_|refine All.mk fun _=>?_|refine xT ?_|refine xI ?_|refine Ch.l ⟨rfl, rfl⟩ ?_|(apply SetAsk.r;focus repeat' constructor)|(apply Fk.r;focus repeat' first|infer_instance|constructor)|refine xN ?_|refine xK ?_|(apply Kf.mk;(focus kernel_rfl))|refine xM ?_|apply Zx.one|(apply LkM.s;(focus first|assumption|rfl))|(apply LkM.n;(focus first|assumption|rfl))|fail)
      all_goals exact PA.lp (D, x, lg) xE ⟨hsame.symm, by rw [hcell];exact hxg, .inl ⟨by rw [hcell], rfl⟩⟩
     ·have hr : ¬ isReg t.kind := by unfold isReg;omega
      have hcell : cellF e t (some (uk, uc, uv)) g = ((addF x.marks ⟨e.rep, e.num, e.time, 0⟩).1, ⟨x.put, x.drop, (addF x.marks ⟨e.rep, e.num, e.time, 0⟩).2⟩) := by
       rw [← hxg];simp [cellF, k1, k2, isReg, MgE.g]
      have hcon := add_a v i e ⟨e.rep, e.num, e.time, 0⟩ D x hx (hsrt.mono _) hml
      rw [← hlk] at hz
      repeat' (first|refine Sp.h ?_|refine Lk.r rfl ?_|refine Rf.mk rfl ?_|refine xA ?_|refine xB ?_|refine OpK.r rfl ?_|refine All.mk fun _=>?_|refine xU ?_|refine xT ?_|refine xI ?_|refine Ch.l ⟨rfl, rfl⟩ ?_|(apply SetAsk.r;focus repeat' constructor)|(apply Fk.r;focus repeat' first|infer_instance|constructor)|refine xN ?_|refine xK ?_|(apply Kf.mk;(focus kernel_rfl))|refine xM ?_|(apply LkM.s;(focus first|assumption|rfl))|refine xD ?_|(apply Cl.p (hreg);focus repeat' constructor))
      refine xW (hcon) ?_
      rintro _ _ ⟨w', rfl, rfl⟩
      repeat' (first|refine Sp.h ?_|refine Lk.r rfl ?_|refine Rf.mk rfl ?_|(refine Bd.mk ?_ ?_ <;> intro _)|refine xN ?_|fail)
      ·exact PA.lp (D.set i ⟨x.put, x.drop, w', (addF x.marks ⟨e.rep, e.num, e.time, 0⟩).2⟩, ⟨x.put, x.drop, w', (addF x.marks ⟨e.rep, e.num, e.time, 0⟩).2⟩, lg) xE ⟨rfl, by rw [hcell];rfl, .inl ⟨by rw [hcell];assumption, rfl⟩⟩
      ·exact PA.lp (D.set i ⟨x.put, x.drop, w', (addF x.marks ⟨e.rep, e.num, e.time, 0⟩).2⟩, ⟨x.put, x.drop, w', (addF x.marks ⟨e.rep, e.num, e.time, 0⟩).2⟩, true) xE ⟨rfl, by rw [hcell];rfl, .inr ⟨by rw [hcell];assumption, rfl⟩⟩
      ·rw [hbad _ _ hcell (by assumption) (by assumption)]
       exact ⟨_, _, .tup (.same (.same (.z))), .inr ⟨by assumption, rfl, rfl⟩⟩
     ·have hr : ¬ isReg t.kind := by unfold isReg;omega
      have hcell : cellF e t (some (uk, uc, uv)) g = (0, ⟨false, x.drop, fgK e.past x.marks⟩) := by
       rw [← hxg];simp [cellF, k1, k2, MgE.g]
      have hcon := drop_a v i e ⟨e.rep, e.num, e.time, 0⟩ D x hx hml
      rw [← hlk] at hz
      repeat' (first|refine Sp.h ?_|refine Lk.r rfl ?_|refine Rf.mk rfl ?_|refine xA ?_|refine xB ?_|refine OpK.r rfl ?_|refine All.mk fun _=>?_|refine xU ?_|refine xT ?_|refine xI ?_|refine Ch.l ⟨rfl, rfl⟩ ?_|(apply SetAsk.r;focus repeat' constructor)|(apply Fk.r;focus repeat' first|infer_instance|constructor)|refine xN ?_|refine xK ?_|(apply Kf.mk;(focus kernel_rfl))|refine xM ?_|(apply LkM.s;(focus first|assumption|rfl))|refine xD ?_|(apply Cl.p (hreg);focus repeat' constructor))
      refine xW (hcon) ?_
      rintro _ _ ⟨rfl, w', rfl⟩
      repeat' (first|refine Sp.h ?_|refine Lk.r rfl ?_|refine Rf.mk rfl ?_|refine xA ?_|fail)
      exact PA.lp (D.set i ⟨false, x.drop, w', fgK e.past x.marks⟩, ⟨false, x.drop, w', fgK e.past x.marks⟩, lg) xE ⟨rfl, by rw [hcell];rfl, .inl ⟨by rw [hcell], rfl⟩⟩
     ·have hr : ¬ isReg t.kind := by unfold isReg;omega
      have hcell : cellF e t (some (uk, uc, uv)) g = (0, ⟨true, false, fgK e.past x.marks⟩) := by
       rw [← hxg];simp [cellF, k1, k2, MgE.g]
      have hcon := put_a v i e ⟨e.rep, e.num, e.time, 0⟩ D x hx hml
      rw [← hlk] at hz
      repeat' (first|refine Sp.h ?_|refine Lk.r rfl ?_|refine Rf.mk rfl ?_|refine xA ?_|refine xB ?_|refine OpK.r rfl ?_|refine All.mk fun _=>?_|refine xU ?_|refine xT ?_|refine xI ?_|refine Ch.l ⟨rfl, rfl⟩ ?_|(apply SetAsk.r;focus repeat' constructor)|(apply Fk.r;focus repeat' first|infer_instance|constructor)|refine xN ?_|refine xK ?_|(apply Kf.mk;(focus kernel_rfl))|refine xM ?_|(apply LkM.s;(focus first|assumption|rfl))|refine xD ?_|(apply Cl.p (hreg);focus repeat' constructor))
      refine xW (hcon) ?_
      rintro _ _ ⟨rfl, w', rfl⟩
      repeat' (first|refine Sp.h ?_|refine Lk.r rfl ?_|refine Rf.mk rfl ?_|refine xA ?_|fail)
      exact PA.lp (D.set i ⟨true, false, w', fgK e.past x.marks⟩, ⟨true, false, w', fgK e.past x.marks⟩, lg) xE ⟨rfl, by rw [hcell];rfl, .inl ⟨by rw [hcell], rfl⟩⟩
     ·have hr : ¬ isReg t.kind := by unfold isReg;omega
      have hcell : cellF e t (some (uk, uc, uv)) g = ((addF x.marks ⟨e.rep, e.num, e.time, 0⟩).1, ⟨x.put, x.drop, (addF x.marks ⟨e.rep, e.num, e.time, 0⟩).2⟩) := by
       rw [← hxg];simp [cellF, k1, k2, isReg, MgE.g]
      have hcon := add_a v i e ⟨e.rep, e.num, e.time, 0⟩ D x hx (hsrt.mono _) hml
      rw [← hlk] at hz
      repeat' (first|refine Sp.h ?_|refine Lk.r rfl ?_|refine Rf.mk rfl ?_|refine xA ?_|refine xB ?_|refine OpK.r rfl ?_|refine All.mk fun _=>?_|refine xU ?_|refine xT ?_|refine xI ?_|refine Ch.l ⟨rfl, rfl⟩ ?_|(apply SetAsk.r;focus repeat' constructor)|(apply Fk.r;focus repeat' first|infer_instance|constructor)|refine xN ?_|refine xK ?_|(apply Kf.mk;(focus kernel_rfl))|refine xM ?_|(apply LkM.s;(focus first|assumption|rfl))|refine xD ?_|(apply Cl.p (hreg);focus repeat' constructor))
      refine xW (hcon) ?_
      rintro _ _ ⟨w', rfl, rfl⟩
      repeat' (first|refine Sp.h ?_|refine Lk.r rfl ?_|refine Rf.mk rfl ?_|(refine Bd.mk ?_ ?_ <;> intro _)|refine xN ?_|fail)
      ·exact PA.lp (D.set i ⟨x.put, x.drop, w', (addF x.marks ⟨e.rep, e.num, e.time, 0⟩).2⟩, ⟨x.put, x.drop, w', (addF x.marks ⟨e.rep, e.num, e.time, 0⟩).2⟩, lg) xE ⟨rfl, by rw [hcell];rfl, .inl ⟨by rw [hcell];assumption, rfl⟩⟩
      ·exact PA.lp (D.set i ⟨x.put, x.drop, w', (addF x.marks ⟨e.rep, e.num, e.time, 0⟩).2⟩, ⟨x.put, x.drop, w', (addF x.marks ⟨e.rep, e.num, e.time, 0⟩).2⟩, true) xE ⟨rfl, by rw [hcell];rfl, .inr ⟨by rw [hcell];assumption, rfl⟩⟩
      ·rw [hbad _ _ hcell (by assumption) (by assumption)]
       exact ⟨_, _, .tup (.same (.same (.z))), .inr ⟨by assumption, rfl, rfl⟩⟩
     ·have hr : isReg t.kind := by unfold isReg;omega
      have hcell : cellF e t (some (uk, uc, uv)) g = ((lastF x.marks ⟨e.rep, e.num, e.time, uv⟩).1, ⟨x.put, x.drop, (lastF x.marks ⟨e.rep, e.num, e.time, uv⟩).2⟩) := by
       rw [← hxg];simp [cellF, k1, k2, isReg, MgE.g]
      have hcon := last_a v i e ⟨e.rep, e.num, e.time, uv⟩ D x hx hml
      rw [← hlk] at hz
      repeat' (first|refine Sp.h ?_|refine Lk.r rfl ?_|refine Rf.mk rfl ?_|refine xA ?_|refine OpK.r rfl ?_|refine All.mk fun _=>?_|refine xU ?_|refine xT ?_|refine xI ?_|refine Ch.l ⟨rfl, rfl⟩ ?_|refine xV ?_|(apply SetAsk.r;focus repeat' constructor)|(apply Fk.r;focus repeat' first|infer_instance|constructor)|refine xN ?_|refine xK ?_|(apply Kf.mk;(focus kernel_rfl))|refine xM ?_|(apply LkM.s;(focus first|assumption|rfl))|refine xD ?_|(apply Cl.p (hreg);focus repeat' constructor))
      refine xW (hcon) ?_
      rintro _ _ ⟨rfl, w', rfl⟩
      repeat' (first|refine Sp.h ?_|refine Lk.r rfl ?_|refine Rf.mk rfl ?_|(refine Bd.mk ?_ ?_ <;> intro _)|refine xN ?_|fail)
      ·exact PA.lp (D.set i ⟨x.put, x.drop, w', (lastF x.marks ⟨e.rep, e.num, e.time, uv⟩).2⟩, ⟨x.put, x.drop, w', (lastF x.marks ⟨e.rep, e.num, e.time, uv⟩).2⟩, lg) xE ⟨rfl, by rw [hcell];rfl, .inl ⟨by rw [hcell];assumption, rfl⟩⟩
      ·exact PA.lp (D.set i ⟨x.put, x.drop, w', (lastF x.marks ⟨e.rep, e.num, e.time, uv⟩).2⟩, ⟨x.put, x.drop, w', (lastF x.marks ⟨e.rep, e.num, e.time, uv⟩).2⟩, true) xE ⟨rfl, by rw [hcell];rfl, .inr ⟨by rw [hcell];assumption, rfl⟩⟩
      ·rw [hbad _ _ hcell (by assumption) (by assumption)]
       exact ⟨_, _, .tup (.same (.same (.z))), .inr ⟨by assumption, rfl, rfl⟩⟩
     ·have hr : isReg t.kind := by unfold isReg;omega
      have hcell : cellF e t (some (uk, uc, uv)) g = ((addF (fgK e.past x.marks) ⟨e.rep, e.num, e.time, uv⟩).1, ⟨x.put, x.drop, (addF (fgK e.past x.marks) ⟨e.rep, e.num, e.time, uv⟩).2⟩) := by
       rw [← hxg];simp [cellF, k1, k2, isReg, MgE.g]
      have hcon := multi_a v i e ⟨e.rep, e.num, e.time, uv⟩ D x hx hml ((hsrt.filter _).mono _)
      rw [← hlk] at hz
      repeat' (first|refine Sp.h ?_|refine Lk.r rfl ?_|refine Rf.mk rfl ?_|refine xA ?_|refine OpK.r rfl ?_|refine All.mk fun _=>?_|refine xU ?_|refine xT ?_|refine xI ?_|refine Ch.l ⟨rfl, rfl⟩ ?_|refine xV ?_|(apply SetAsk.r;focus repeat' constructor)|(apply Fk.r;focus repeat' first|infer_instance|constructor)|refine xN ?_|refine xK ?_|(apply Kf.mk;(focus kernel_rfl))|refine xM ?_|(apply LkM.s;(focus first|assumption|rfl))|refine xD ?_|(apply Cl.p (hreg);focus repeat' constructor))
      refine xW (hcon) ?_
      rintro _ _ ⟨rfl, w', rfl⟩
      repeat' (first|refine Sp.h ?_|refine Lk.r rfl ?_|refine Rf.mk rfl ?_|(refine Bd.mk ?_ ?_ <;> intro _)|refine xN ?_|fail)
      ·exact PA.lp (D.set i ⟨x.put, x.drop, w', (addF (fgK e.past x.marks) ⟨e.rep, e.num, e.time, uv⟩).2⟩, ⟨x.put, x.drop, w', (addF (fgK e.past x.marks) ⟨e.rep, e.num, e.time, uv⟩).2⟩, lg) xE ⟨rfl, by rw [hcell];rfl, .inl ⟨by rw [hcell];assumption, rfl⟩⟩
      ·exact PA.lp (D.set i ⟨x.put, x.drop, w', (addF (fgK e.past x.marks) ⟨e.rep, e.num, e.time, uv⟩).2⟩, ⟨x.put, x.drop, w', (addF (fgK e.past x.marks) ⟨e.rep, e.num, e.time, uv⟩).2⟩, true) xE ⟨rfl, by rw [hcell];rfl, .inr ⟨by rw [hcell];assumption, rfl⟩⟩
      ·rw [hbad _ _ hcell (by assumption) (by assumption)]
       exact ⟨_, _, .tup (.same (.same (.z))), .inr ⟨by assumption, rfl, rfl⟩⟩
   ·rintro ⟨D', x', lg'⟩ ⟨hD', hx', hc⟩
    simp only at hD' hx' hc
    subst hD'
    simp only
    have htk : C.take (i + 1) = C.take i ++ [cellF e t (updF a.eff.updates i) g] := by rw [List.take_add_one, hq];rfl
    have hdr : l.drop i = g :: l.drop (i + 1) := by
     have h9 := List.drop_eq_getElem_cons hin
     rw [(List.getElem?_eq_some_iff.1 hgi).2] at h9
     exact h9
    have hA : (D.set i x').map MgE.g = (C.take (i + 1)).map (·.2) ++ l.drop (i + 1) := by
     rw [List.map_set, g2, hx', hdr, List.set_append, if_neg (by rw [List.length_map, htl];omega), List.length_map, htl, Nat.sub_self, List.set_cons_zero, htk]
     simp
    have hB : ∀ p ∈ C.take (i + 1), p.1 = 0 ∨ p.1 = 8 := fun p hp => by
     rw [htk] at hp
     rcases List.mem_append.1 hp with h9|h9
     ·exact g3 p h9
     ·rw [List.mem_singleton.1 h9]
      exact hc.imp (·.1) (·.1)
    have hE : lg' = true ↔ ∃ p ∈ C.take (i + 1), p.1 = 8 := by
     rw [htk]
     rcases hc with ⟨c1, rfl⟩|⟨c1, rfl⟩
     ·rw [g4]
      constructor
      ·rintro ⟨p, hp, h8⟩
       exact ⟨p, by simp [hp], h8⟩
      ·rintro ⟨p, hp, h8⟩
       rcases List.mem_append.1 hp with h9|h9
       ·exact ⟨p, h9, h8⟩
       ·rw [List.mem_singleton.1 h9, c1] at h8;cases h8
     ·exact ⟨fun _ => ⟨_, by simp, c1⟩, fun _ => rfl⟩
    (repeat' (first|(show CA _ _ (Code.region 28 _ _) _ _;apply Stopped.out)|refine Sp.h ?_|fail));any_goals apply Stopped.mk
    apply CA.bunPut (l := D) (g := mgeR) (i := i) (x := x')
    focus (repeat constructor)
    focus (repeat constructor)
    focus exact hDl
    repeat' (first|refine Sp.h ?_|refine Lk.r rfl ?_|refine Rf.mk rfl ?_|refine xO ?_|fail)
    exact PA.lp (i + 1, D.set i x', lg') xE ⟨⟨hin, hA, hB, hE⟩, by simp only;omega⟩
  ·have hie : i = l.length := by omega
   subst hie
   have hCl : C.length = l.length := by rw [hC];exact cellsF_len
   rw [← hCl, List.take_length] at g3 g4
   rw [← hCl, List.take_length, hCl, List.drop_length, List.append_nil] at g2
   cases lg with
   | true =>
    have hG : gatherF C = (8, []) := by rw [gather_end g3, if_pos (g4.1 rfl)]
    rw [hG]
    repeat' (first|refine Sp.h ?_|refine Lk.r rfl ?_|refine Rf.mk rfl ?_|refine xB ?_|refine xN ?_|fail)
    exact ⟨_, _, .tup (.same (.same (.z))), .inr ⟨by decide, rfl, rfl⟩⟩
   | false =>
    have hG : gatherF C = (0, C.map (·.2)) := by rw [gather_end g3, if_neg (fun h9 => by have := g4.2 h9;cases this)]
    rw [hG]
    repeat' (first|refine Sp.h ?_|refine Lk.r rfl ?_|refine Rf.mk rfl ?_|refine xB ?_|refine xN ?_|fail)
    exact ⟨_, _, .tup (.same (.same (.z))), .inl ⟨v, D, rfl, rfl, rfl, g2⟩⟩
end Go.Proofs.YtajenkpjcbaadaaGreat
namespace Go.Proofs.YtajenkpjcbaadaaGreat
open Go Go.CF
set_option maxRecDepth 20000
structure NowS where
 clock : List Int
 time : Int
 state : List Int
 merged : List MgS
 places : List Int
def cntF (c : List Int) (e : EvS) : List Int := c.set e.rep.toNat (max (c[e.rep.toNat]?.getD 0) e.num)
def dltF (m : ModS) (e : EvS) : List (Int × Int) := match m.acts[e.action.toNat]? with
 | some a => a.eff.delta
 | none => []
def add1 (s : List Int) (p : Int × Int) : List Int := s.set p.1.toNat (IntKind.i64.wrap ((s[p.1.toNat]?.getD 0) + p.2))
def addD (s : List Int) (d : List (Int × Int)) : List Int := d.foldl add1 s
def addE (m : ModS) (s : List Int) (e : EvS) : List Int := if e.kind = 0 then addD s (dltF m e) else s
def insS (l : List Int) : Prop := ∀ x ∈ l, -1000000000 ≤ x ∧ x ≤ 1000000000
noncomputable instance (l : List Int) : Decidable (insS l) := Classical.propDecidable _
def withP (l : List Int) (n : Int) : List Int := if n ∈ l then l else l.filter (· < n) ++ n :: l.filter (n < ·)
def plE (l : List Int) (e : EvS) : List Int := if 0 < e.place then withP l e.place else l
def LateE (evs : List EvS) (e : EvS) : Prop := ∃ x ∈ evs, HasC e.past x.rep x.num ∧ e.time ≤ x.time
noncomputable instance (evs : List EvS) (e : EvS) : Decidable (LateE evs e) := Classical.propDecidable _
noncomputable def deliverF (m : ModS) (evs : List EvS) (w : NowS) (e : EvS) : Int × NowS :=
 if ¬ EvV m (w.clock.length : Nat) e then (1, w)
 else if HasC w.clock e.rep e.num then (6, w)
 else if ¬ Ins e.past w.clock then (9, w)
 else if LateE evs e then (2, w)
 else if e.kind = 0 ∧ ¬ insS (addE m w.state e) then (2, w)
 else if (applyF m w.merged e).1 ≠ 0 then ((applyF m w.merged e).1, w)
 else (0, ⟨cntF w.clock e, max w.time e.time, addE m w.state e, (applyF m w.merged e).2, plE w.places e⟩)
end Go.Proofs.YtajenkpjcbaadaaGreat
namespace Go.Proofs.YtajenkpjcbaadaaGreat
open Go Go.CF
set_option maxRecDepth 20000
theorem listsQ_p (a b : List (List Int)) : CallP Tryz.prog 22 [clks a, clks b] (.val (.bool (decide (a = b)))) := by
 refine CallA.of pg ord22 Tryz.func22 rfl Tryz.ntmps22 Tryz.results22 rfl fun h0 G0 O0 => ?_
 repeat' (first|refine Sp.h ?_|refine Lk.r rfl ?_|refine Rf.mk rfl ?_|(refine Bd.mk ?_ ?_ <;> intro _)|refine Im.mk fun _=>?_|refine xN ?_|fail)
 ·refine CA.loop (fun i : Nat => ⟨[(0, clks a), (1, clks b), (5, .val (.int .i64 i))], []⟩) (fun i => i ≤ a.length ∧ a.take i = b.take i) (fun i => a.length - i) 0 xE ⟨Nat.zero_le _, by simp⟩ ?_
  rintro i ⟨hi, heq⟩
  by_cases hin : i < a.length
  ·obtain ⟨x, hx⟩ := get_of hin
   obtain ⟨y, hy⟩ := get_of (l := b) (i := i) (by omega)
   repeat' (first|refine Sp.h ?_|refine Lk.r rfl ?_|refine Rf.mk rfl ?_|refine xA ?_|(refine Bd.mk ?_ ?_ <;> intro _)|refine OpK.r rfl ?_|refine Im.mk fun _=>?_|refine xI ?_|refine xN ?_|refine xD ?_|refine xO ?_|(apply Cl.p (intsR_p _ _);focus repeat' constructor))
   ·rename_i hxy
    refine PA.lp (i + 1) xE ⟨⟨hin, ?_⟩, by omega⟩
    rw [List.take_add_one, List.take_add_one, hx, hy, heq, show x = y from hxy]
   ·rename_i hxy
    refine Fin.p rfl (vb (decide_eq_false (fun e => hxy ?_)).symm)
    subst e;rw [hx] at hy;cases hy;rfl
  ·have : i = a.length := by omega
   subst this
   repeat' (first|refine Sp.h ?_|refine Lk.r rfl ?_|refine Rf.mk rfl ?_|refine xB ?_|refine Im.mk fun _=>?_|refine xN ?_|fail)
   refine Fin.p rfl (vb (decide_eq_true ?_).symm)
   rw [List.take_length] at heq
   rw [heq, List.take_of_length_le (by omega)]
 ·rename_i h
  exact Fin.p rfl (vb (decide_eq_false (fun e => h (by rw [e]))).symm)
end Go.Proofs.YtajenkpjcbaadaaGreat
namespace Go.Proofs.YtajenkpjcbaadaaGreat
open Go Go.CF
set_option maxRecDepth 20000
def mg0 : MgS := ⟨false, false, []⟩
theorem new_p (m : ModS) (hm : LayOK m.sorts m.tables) : CallP Tryz.prog 84 [mdl m] (mgs (List.replicate (mrgF m).length mg0)) := by
 have hc := cells_p m hm
 have hle := mrgF_le hm
 refine CallA.conv (a := .sl 3 (List.replicate (mrgF m).length ()) fun _ => [bl false, bl false, .val (.slice none 0 0)]) (ALe.sl (by simp) fun i x y _ hy => ?_) (CallA.fz (T := 194) (by simp;omega) ?_)
 ·have : y = mg0 := (List.mem_replicate.1 (List.mem_of_getElem? hy)).2
  subst this
  exact .cons (ALe.refl _) (.cons (ALe.refl _) (.cons ALe.nil .nil))
 ·refine CallA.of pg ord84 Tryz.func84 rfl Tryz.ntmps84 Tryz.results84 rfl fun h0 G0 O0 => ?_
  repeat' (first|refine Sp.h ?_|refine Lk.r rfl ?_|refine Rf.mk rfl ?_|refine Im.mk fun _=>?_|refine All.mk fun _=>?_|refine xT ?_|refine Ch.l ⟨rfl, rfl⟩ ?_|refine xN ?_|refine Rf.mk ⟨rfl, rfl, rfl⟩ ?_|(apply Jx.r;(focus exact rfl);(focus first|omega|(simp;done)|(simp;omega)))|(apply Cl.p (hc);focus repeat' constructor))
  refine CF.MkS.r (fun _ : Unit => [bl false, bl false, .val (.slice none 0 0)]) () rfl ?_
  repeat' (first|refine Sp.h ?_|refine Lk.r rfl ?_|refine All.mk fun _=>?_|refine xN ?_|fail)
  exact ⟨_, _, .one (.same (.z)), _, rfl, rfl⟩
abbrev nl0 : AV := .val (.slice none 0 0)
end Go.Proofs.YtajenkpjcbaadaaGreat
