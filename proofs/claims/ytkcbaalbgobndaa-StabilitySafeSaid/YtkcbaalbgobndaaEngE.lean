/- Maps whose keys are integers, structs that are stored, and further rules. Generic over the program. -/
import Derived.Test.YtkcbaalbgobndaaEngD
namespace Go.CF
open Go

/-- Block b is a map with integer keys, that has these entries, in the order in which they came. -/
structure MapI (h : Heap) (b : Nat) (kk : IntKind) (kvs : List (Int × Value)) : Prop where
  ok : ∃ es clock, h[b]? = some (.map es clock) ∧ es.toList.map (fun e => (e.key, e.val)) = kvs.map (fun p => (Value.int kk p.1, p.2))

def findI : List (Int × Value) → Int → Nat → Option (Nat × Value)
  | [], _, _ => none
  | (k, v) :: r, x, i => if x = k then some (i, v) else findI r x (i + 1)
def lookI (l : List (Int × Value)) (x : Int) : Option Value := (l.find? (fun p => decide (p.1 = x))).map (·.2)
def updI : List (Int × Value) → Int → Value → List (Int × Value)
  | [], x, v => [(x, v)]
  | (k, u) :: r, x, v => if x = k then (k, v) :: r else (k, u) :: updI r x v

theorem findI_look : ∀ (l : List (Int × Value)) (x : Int) (i : Nat), (findI l x i).map (·.2) = lookI l x
  | [], _, _ => rfl
  | (k, v) :: r, x, i => by
    simp only [findI, lookI, List.find?_cons]
    by_cases h : x = k
    · subst h; simp
    · have h' : ¬ k = x := fun e => h e.symm
      simp only [h, if_false, h', decide_false]
      exact findI_look r x (i + 1)

theorem findNow_int (kk q : IntKind) (x : Int) : ∀ (es : List MapEntry) (kvs : List (Int × Value)) (i : Nat), es.map (fun e => (e.key, e.val)) = kvs.map (fun p => (Value.int kk p.1, p.2)) →
    Instr.findNow (.int q) (.int kk x) es i = some (findI kvs x i)
  | [], [], _, _ => rfl
  | [], _ :: _, _, h => by simp at h
  | _ :: _, [], _, h => by simp at h
  | e :: es, (k, v) :: kvs, i, h => by
    simp only [List.map_cons, List.cons.injEq, Prod.mk.injEq] at h
    obtain ⟨⟨h1, h2⟩, h3⟩ := h
    simp only [Instr.findNow, h1, h2, Instr.sameNow, if_true, findI]
    by_cases hx : x = k
    · subst hx; simp
    · have : (x == k) = false := by simpa using hx
      simp only [this, hx, if_false]
      exact findNow_int kk q x es kvs (i + 1) h3

theorem findI_upd (kk : IntKind) (x : Int) (v : Value) (kb : Nat) : ∀ (es : List MapEntry) (kvs : List (Int × Value)) (i j : Nat) (u : Value), es.map (fun e => (e.key, e.val)) = kvs.map (fun p => (Value.int kk p.1, p.2)) →
    findI kvs x i = some (j, u) → i ≤ j ∧ (∃ e, es[j - i]? = some e ∧ e.key = .int kk x) ∧ (es.modify (j - i) (fun e => { e with key := .int kk x, val := v })).map (fun e => (e.key, e.val)) = (updI kvs x v).map (fun p => (Value.int kk p.1, p.2))
  | [], [], _, _, _, _, h => by simp [findI] at h
  | [], _ :: _, _, _, _, h, _ => by simp at h
  | _ :: _, [], _, _, _, h, _ => by simp at h
  | e :: es, (k, w) :: kvs, i, j, u, h, hf => by
    simp only [List.map_cons, List.cons.injEq, Prod.mk.injEq] at h
    obtain ⟨⟨h1, h2⟩, h3⟩ := h
    simp only [findI] at hf
    by_cases hx : x = k
    · subst hx
      simp only [if_true, Option.some.injEq, Prod.mk.injEq] at hf
      obtain ⟨rfl, rfl⟩ := hf
      simp [updI, h1, h3]
    · simp only [hx, if_false] at hf
      obtain ⟨ih1, ⟨e', ih2, ih2'⟩, ih3⟩ := findI_upd kk x v kb es kvs (i + 1) j u h3 hf
      have hji : j - i = (j - (i + 1)) + 1 := by omega
      refine ⟨by omega, ⟨e', by rw [hji]; simpa using ih2, ih2'⟩, ?_⟩
      rw [hji]
      simp only [updI, hx, if_false, List.map_cons, List.modify_succ_cons, ih3, h1, h2]

theorem findI_none : ∀ (kvs : List (Int × Value)) (x : Int) (v : Value) (i : Nat), findI kvs x i = none → updI kvs x v = kvs ++ [(x, v)]
  | [], _, _, _, _ => rfl
  | (k, u) :: r, x, v, i, h => by
    simp only [findI] at h
    by_cases hx : x = k
    · simp [hx] at h
    · simp only [hx, if_false] at h
      simp [updI, hx, findI_none r x v (i + 1) h]

section
variable {fp : List Nat} {h h' : Heap} {b : Nat} {kk : IntKind} {kvs : List (Int × Value)}
theorem MapI.lt (hm : MapI h b kk kvs) : b < h.size := by
  obtain ⟨es, cl, h1, _⟩ := hm.ok
  exact (Array.getElem?_eq_some_iff.1 h1).1
theorem MapI.stp (x : Stp fp h h') (hm : MapI h b kk kvs) (hn : b ∉ fp) : MapI h' b kk kvs := by
  obtain ⟨es, cl, h1, h2⟩ := hm.ok
  exact ⟨es, cl, (x.same b hm.lt hn).trans h1, h2⟩
end

theorem TOK.map {P : Program} {T : TypeId} {ti : TI} (ht : TOK P T ti) {k e : Nat} (hk : ti.kind = .map k e) : P.underlying T = some (.map k e) := by
  obtain ⟨i, d, hi, hd, _, _, _, hk'⟩ := ht.ok
  rw [hk] at hk'
  cases d <;> simp [kindOf] at hk'
  obtain ⟨rfl, rfl⟩ := hk'; exact hd

section
variable {P : Program} {tt : Nat → Option TI} {en : Nat → Bool} {fp : List Nat} {n : Nat} {c : Cls} {env : Env} {h : Heap} {N : Env → Heap → Prop} {d : Tmp} {ty : TypeId} {t u : TypeId} {x y z : Operand} {v : Value}

theorem St.makeMap (hc : acts c = true) (kk : IntKind) (k : ∀ b h', MapI h' b kk [] → Stp [] h h' → b = h.size → h'.size = h.size + 1 → N ((d, .map (some b)) :: env) h') : St P n fp c (some d) (.makeMap t none) ty env h N :=
  .ofEx hc (fun a w o next Q ha hw ho ht hn => by
    have hrun : (execOp a.eval (mkOp (.makeMap t none) ty)).run P w = .ok (.value (.map (some w.heap.size))) (w.alloc (.map #[] 0)) := by
      simp [mkOp, execOp, Instr.makeMap]
    unfold Oper.wp
    rw [exec_mk, ho, ht, hrun]
    have hs : ∀ f, Stp f h (h.push (Obj.map #[] 0)) := fun f => ⟨by simp, fun c hc _ => by rw [Array.getElem?_push, if_neg (by omega)]⟩
    refine hn _ _ ⟨rfl, rfl, rfl⟩ ?_
    simp only [World.alloc, hw]
    exact ⟨hs fp, k h.size _ ⟨#[], 0, by simp, rfl⟩ (hs []) rfl (by simp)⟩)

theorem ld_mapUpdate (G : PgOK P tt en) {op : Op} {ti tk : TI} {e kt b : Nat} {kk q : IntKind} {kvs : List (Int × Value)} {ki : Int} {K : Value → Heap → Prop} (hop : op = .insert t x y z ∨ op = .mapUpdate t x y z) (ht : tt t = some ti) (hk : ti.kind = .map kt e) (htk : tt kt = some tk) (hkk : tk.kind = .int q)
    (hx : ev env x = some (.map (some b))) (hy : ev env y = some (.int kk ki)) (hz : ev env z = some v) (hm : MapI h b kk kvs)
    (k : ∀ h', MapI h' b kk (updI kvs ki v) → Stp [b] h h' → h'.size = h.size → K undef h') : Ld P n op ty env h K := by
  intro a w o next Q ha hw ho hty hn
  obtain ⟨es, clock, hb, hes⟩ := hm.ok
  have hmu := (G.ok _ _ ht).map hk
  have hku := (G.ok _ _ htk).int hkk
  have hb' : w.heap[b]? = some (.map es clock) := hw ▸ hb
  have hfn := findNow_int kk q ki es.toList kvs 0 hes
  have hfk : (Instr.findKey kt (.int kk ki) es.toList).run P w = .ok (findI kvs ki 0) w := MapKept.run_findKey hku hfn
  have hck : ∀ bb, (Instr.checkKey bb 10000 kt (.int kk ki)).run P w = .ok () w := fun bb => by
    unfold Instr.checkKey
    simp [run_underlying hku]
  have hstp : ∀ ob, Stp [b] h (h.setIfInBounds b ob) := fun ob => ⟨by simp, fun c _ hn => by rw [Array.getElem?_setIfInBounds, if_neg (fun e => hn (by simp [e]))]⟩
  have fin : ∀ es' clock', (Instr.mapUpdate t (.map (some b)) (.int kk ki) v).run P w = .ok () { w with heap := w.heap.setIfInBounds b (.map es' clock') } →
      es'.toList.map (fun e => (e.key, e.val)) = (updI kvs ki v).map (fun p => (Value.int kk p.1, p.2)) → o.upon P a next Q ((execOp a.eval o).run P w) := by
    intro es' clock' hr he
    have hrun : (execOp a.eval (mkOp op ty)).run P w = .ok .skip { w with heap := w.heap.setIfInBounds b (.map es' clock') } := by
      rcases hop with rfl | rfl <;> simp [mkOp, execOp, ha.ev hx, ha.ev hy, ha.ev hz, hr]
    rw [exec_mk, ho, hty, hrun]
    refine hn _ _ ⟨rfl, rfl, rfl⟩ (k _ ⟨es', clock', ?_, he⟩ ?_ ?_)
    · simp only [hw, Array.getElem?_setIfInBounds]; simp [hm.lt]
    · simp only [hw]; exact hstp _
    · simp [hw]
  unfold Oper.wp
  cases hf : findI kvs ki 0 with
  | none =>
    rw [hf] at hfk
    refine fin (es.push { key := .int kk ki, val := v, born := clock }) (clock + 1) ?_ ?_
    · simp only [Instr.mapUpdate, Sem.run_bind, run_underlying hmu, Result.andThen_ok, MapKept.run_getObj_map hb', hck, hfk, MapKept.run_setObj_map _ hb']
    · rw [findI_none kvs ki v 0 hf]; simp [hes]
  | some p =>
    obtain ⟨j, u⟩ := p
    rw [hf] at hfk
    obtain ⟨_, ⟨e0, he0, he0'⟩, hmod⟩ := findI_upd kk ki v 0 es.toList kvs 0 j u hes hf
    simp only [Nat.sub_zero] at he0 hmod
    have he1 : es[j]? = some e0 := by simpa using he0
    refine fin (es.modify j fun e => { e with key := .int kk ki, val := v }) clock ?_ ?_
    · have hkeep : (Instr.keyThatStays (.int kk ki) (.int kk ki)).run P w = .ok (.int kk ki) w := by
        unfold Instr.keyThatStays
        have : Instr.sameBits 10000 (.int kk ki) (.int kk ki) = true := by simp [Instr.sameBits]
        simp [this]
      simp only [Instr.mapUpdate, Sem.run_bind, run_underlying hmu, Result.andThen_ok, MapKept.run_getObj_map hb', hck, hfk, he1, Option.map_some, Option.getD_some, he0', hkeep, MapKept.run_setObj_map _ hb']
    · rw [Array.toList_modify]; exact hmod

theorem St.insert (G : PgOK P tt en) {ti tk : TI} {e kt b : Nat} {kk q : IntKind} {kvs : List (Int × Value)} {ki : Int} (ht : tt t = some ti) (hk : ti.kind = .map kt e) (htk : tt kt = some tk) (hkk : tk.kind = .int q)
    (hx : ev env x = some (.map (some b))) (hy : ev env y = some (.int kk ki)) (hz : ev env z = some v) (hm : MapI h b kk kvs) (hc : isLoud c = true ∨ c = .ext ∧ b ∈ fp)
    (k : ∀ h', MapI h' b kk (updI kvs ki v) → Stp [b] h h' → h'.size = h.size → N env h') : St P n fp c none (.insert t x y z) ty env h N := by
  rcases hc with hc | ⟨rfl, hb⟩
  · exact .ofLd hc (ld_mapUpdate G (.inl rfl) ht hk htk hkk hx hy hz hm k)
  · exact .ofEx rfl (ld_mapUpdate G (.inl rfl) ht hk htk hkk hx hy hz hm fun h' h1 h2 h3 => ⟨h2.mono fun b' hb' => .inl (by simp at hb'; subst hb'; exact hb), k h' h1 h2 h3⟩)
theorem St.mapUpdate (G : PgOK P tt en) {ti tk : TI} {e kt b : Nat} {kk q : IntKind} {kvs : List (Int × Value)} {ki : Int} (ht : tt t = some ti) (hk : ti.kind = .map kt e) (htk : tt kt = some tk) (hkk : tk.kind = .int q)
    (hx : ev env x = some (.map (some b))) (hy : ev env y = some (.int kk ki)) (hz : ev env z = some v) (hm : MapI h b kk kvs) (hc : isLoud c = true)
    (k : ∀ h', MapI h' b kk (updI kvs ki v) → Stp [b] h h' → h'.size = h.size → N env h') : St P n fp c none (.mapUpdate t x y z) ty env h N :=
  .ofLd hc (ld_mapUpdate G (.inr rfl) ht hk htk hkk hx hy hz hm k)

theorem rd_lookup (G : PgOK P tt en) {ti tk te : TI} {e kt b : Nat} {kk q : IntKind} {kvs : List (Int × Value)} {ki : Int} (ok : Bool) (ht : tt t = some ti) (hk : ti.kind = .map kt e) (htk : tt kt = some tk) (hkk : tk.kind = .int q) (hte : tt e = some te)
    (hx : ev env x = some (.map (some b))) (hy : ev env y = some (.int kk ki)) (hm : MapI h b kk kvs) (hn : b ∉ fp) :
    Rd P n fp (.lookup t x y ok) ty env h (if ok then .tuple #[(lookI kvs ki).getD te.zero, .bool (lookI kvs ki).isSome] else (lookI kvs ki).getD te.zero) := by
  intro a w ha hw
  obtain ⟨es, clock, hb, hes⟩ := (hm.stp hw hn).ok
  have hmu := (G.ok _ _ ht).map hk
  have hku := (G.ok _ _ htk).int hkk
  have hfn := findNow_int kk q ki es.toList kvs 0 hes
  have hfk : (Instr.findKey kt (.int kk ki) es.toList).run P w = .ok (findI kvs ki 0) w := MapKept.run_findKey hku hfn
  have hck : ∀ bb, (Instr.checkKey bb 10000 kt (.int kk ki)).run P w = .ok () w := fun bb => by
    unfold Instr.checkKey
    simp [run_underlying hku]
  have hlk := findI_look kvs ki 0
  have hzr := (G.ok _ _ hte).run_zero w
  cases hf : findI kvs ki 0 with
  | none =>
    rw [hf] at hfk hlk
    simp only [Option.map_none] at hlk
    rw [← hlk]
    simp only [mkOp, execOp, ha.ev hx, ha.ev hy, Instr.lookup, Sem.run_bind, run_underlying hmu, Result.andThen_ok, MapKept.run_getObj_map hb, Sem.run_pure, hck, hfk, hzr]
    cases ok <;> rfl
  | some p =>
    obtain ⟨j, u⟩ := p
    rw [hf] at hfk hlk
    simp only [Option.map_some] at hlk
    rw [← hlk]
    simp only [mkOp, execOp, ha.ev hx, ha.ev hy, Instr.lookup, Sem.run_bind, run_underlying hmu, Result.andThen_ok, MapKept.run_getObj_map hb, Sem.run_pure, hck, hfk]
    cases ok <;> rfl

theorem St.lookup (G : PgOK P tt en) {ti tk te : TI} {e kt b : Nat} {kk q : IntKind} {kvs : List (Int × Value)} {ki : Int} (ht : tt t = some ti) (hk : ti.kind = .map kt e) (htk : tt kt = some tk) (hkk : tk.kind = .int q) (hte : tt e = some te)
    (hx : ev env x = some (.map (some b))) (hy : ev env y = some (.int kk ki)) (hm : MapI h b kk kvs) (hn : b ∉ fp) (hc : notPure c = true)
    (k : N ((d, .tuple #[(lookI kvs ki).getD te.zero, .bool (lookI kvs ki).isSome]) :: env) h) : St P n fp c (some d) (.lookup t x y true) ty env h N :=
  .ofRd hc (rd_lookup G true ht hk htk hkk hte hx hy hm hn) k
theorem St.lookup1 (G : PgOK P tt en) {ti tk te : TI} {e kt b : Nat} {kk q : IntKind} {kvs : List (Int × Value)} {ki : Int} (ht : tt t = some ti) (hk : ti.kind = .map kt e) (htk : tt kt = some tk) (hkk : tk.kind = .int q) (hte : tt e = some te)
    (hx : ev env x = some (.map (some b))) (hy : ev env y = some (.int kk ki)) (hm : MapI h b kk kvs) (hn : b ∉ fp) (hc : notPure c = true)
    (k : N ((d, (lookI kvs ki).getD te.zero) :: env) h) : St P n fp c (some d) (.lookup t x y false) ty env h N :=
  .ofRd hc (rd_lookup G false ht hk htk hkk hte hx hy hm hn) k

/-! ### A struct that is stored -/
theorem ld_storeS (G : PgOK P tt en) {b o : Nat} {T : TypeId} {l l' m : List Value} {K : Value → Heap → Prop} {ti : TI} (ht : tt t = some ti) (hs1 : ti.size = m.length) (hm0 : m ≠ []) (hx : ev env x = some (.pointer (some ⟨b, o, none⟩))) (hy : ev env y = some (.agg m.toArray)) (hv : ∀ u ∈ m, u.oneCell' = true)
    (hb : Blk h b T l) (hs : SetR l o m l') (k : K undef (h.setIfInBounds b (.cells l'.toArray T (0, 0)))) : Ld P n (.store t x y) ty env h K := by
  intro a w oo next Q ha hw hop hty hn
  have hh := hb.heap hw
  have hbd := (hs.bound hm0).1
  have hsz := (G.ok _ _ ht).run_size w
  have hst := run_storeCells_at P b o T m 0 l.toArray w hh (by simpa using hbd) hv
  have e1 : (l.take o ++ m ++ l.drop (o + m.length)) = l' := by
    have gen : ∀ (l : List Value) (o : Nat) (m l' : List Value), SetR l o m l' → l.take o ++ m ++ l.drop (o + m.length) = l' := by
      intro l o m l' hsr
      induction hsr with
      | z => simp
      | @c l l1 l2 r k v h1 h2 ih =>
        obtain ⟨h3, h4⟩ := h1.eq
        rw [← ih, h3]
        have := list_seg_step l k v r (by
          cases r with
          | nil => simp; omega
          | cons x r =>
            have := (h2.bound (by simp)).1
            rw [h3] at this
            simp at this ⊢; omega)
        rw [this]
        simp
    exact gen l o m l' hs
  have hrun : (execOp a.eval (mkOp (.store t x y) ty)).run P w = .ok .skip (w.setRow b l'.toArray) := by
    simp only [Nat.add_zero] at hst
    have e2 : (l.take o ++ m ++ l.drop (o + m.length)).toArray = l'.toArray := by rw [e1]
    have hst' : (storeCells ⟨b, o, none⟩ m).run P w = .ok () (w.setRow b l'.toArray) := by rw [hst, ← e2]
    simp [mkOp, execOp, ha.ev hx, ha.ev hy, Instr.storeAt, Instr.sureAddr, storeVar, hsz, hs1, Value.cells, hst']
  unfold Oper.wp
  rw [exec_mk, hop, hty, hrun]
  refine hn _ _ ⟨rfl, rfl, rfl⟩ ?_
  rw [World.setRow_heap' hh, hw]
  exact k
theorem St.storeS (G : PgOK P tt en) {b o : Nat} {T : TypeId} {l l' m : List Value} {ti : TI} (ht : tt t = some ti) (hx : ev env x = some (.pointer (some ⟨b, o, none⟩))) (hy : ev env y = some (.agg m.toArray)) (hs1 : ti.size = m.length) (hm0 : m ≠ []) (hv : ∀ u ∈ m, u.oneCell' = true)
    (hb : Blk h b T l) (hs : SetR l o m l') (hc : isLoud c = true) (k : ∀ h', Upd h b T l' h' → h'.size = h.size → N env h') : St P n fp c none (.store t x y) ty env h N :=
  .ofLd hc (ld_storeS G ht hs1 hm0 hx hy hv hb hs (k _ ⟨hb.lt, rfl⟩ (by simp)))

end
end Go.CF
namespace Go.CF
open Go
section
variable {fp fp' : List Nat} {h0 h h' : Heap} {b : Nat} {T : TypeId} {l : List Value}
theorem Stp.new (x : New h b T l h') (s : Stp fp h0 h) : Stp fp h0 h' := s.trans x.stp
theorem Stp.upd (x : Upd h b T l h') (s : Stp fp h0 h) (hb : b ∈ fp ∨ h0.size ≤ b) : Stp fp h0 h' :=
  ⟨Nat.le_trans s.size x.stp.size, fun c hc hn => (x.stp.same c (Nat.lt_of_lt_of_le hc s.size) (fun hm => by
    simp at hm; subst hm
    rcases hb with hb | hb
    · exact hn hb
    · omega)).trans (s.same c hc hn)⟩
theorem Stp.stp (x : Stp fp' h h') (s : Stp fp h0 h) (hb : ∀ c, c ∈ fp' → c ∈ fp ∨ h0.size ≤ c) : Stp fp h0 h' :=
  ⟨Nat.le_trans s.size x.size, fun c hc hn => (x.same c (Nat.lt_of_lt_of_le hc s.size) (fun hm => (hb c hm).elim hn (fun hle => by omega))).trans (s.same c hc hn)⟩
end

/-! ### Slices of integers -/
def intsV (l : List Int) : List Value := l.map (Value.int .i64)
theorem intsV_get {l : List Int} {i : Nat} {x : Int} (h : l[i]? = some x) : (intsV l)[i]? = some (.int .i64 x) := by simp [intsV, h]
theorem intsV_length (l : List Int) : (intsV l).length = l.length := by simp [intsV]
theorem intsV_append (l m : List Int) : intsV l ++ intsV m = intsV (l ++ m) := by simp [intsV]
theorem intsV_one {l : List Int} : ∀ u ∈ intsV l, u.oneCell' = true := by
  intro u hu; simp [intsV] at hu; obtain ⟨x, _, rfl⟩ := hu; rfl
/-- v is a slice of these integers. -/
structure IntS (h : Heap) (v : Value) (l : List Int) : Prop where
  sl : Sl h v l.length (intsV l)
theorem IntS.stp {fp : List Nat} {h h' : Heap} {v : Value} {l : List Int} (x : Stp fp h h') (hs : IntS h v l) (hn : ∀ b ∈ rdOf v, b ∉ fp) : IntS h' v l := ⟨hs.sl.stp x hn⟩
theorem IntS.cel {h : Heap} {b o len cap : Nat} {l : List Int} (hs : IntS h (.slice (some ⟨b, o, none⟩) len cap) l) {i : Nat} {x : Int} (hx : l[i]? = some x) : Cel h ⟨b, o + i, none⟩ (.int .i64 x) := by
  rcases hs.sl.ok with ⟨p, cap, _, _, h3⟩ | ⟨b', o', cap', h1, _, _, _, hc⟩
  · have : l.length = 0 := by rw [← intsV_length l, h3]; rfl
    rw [List.eq_nil_of_length_eq_zero this] at hx; simp at hx
  · simp only [Value.slice.injEq, Option.some.injEq, Addr.mk.injEq] at h1
    obtain ⟨⟨rfl, rfl, _⟩, _, _⟩ := h1
    exact hc.cell (intsV_get hx)
theorem IntS.cases {h : Heap} {v : Value} {l : List Int} (hs : IntS h v l) : l = [] ∨ ∃ b o cap, v = .slice (some ⟨b, o, none⟩) l.length cap ∧ l.length ≤ cap ∧ b < h.size := by
  rcases hs.sl.ok with ⟨p, cap, h1, h2, _⟩ | ⟨b, o, cap, h1, _, h2, h3, _⟩
  · exact .inl (List.eq_nil_of_length_eq_zero h2)
  · exact .inr ⟨b, o, cap, h1, h2, h3⟩
end Go.CF
namespace Go.CF
open Go
/-- The kind of an operation: by it the rule is chosen. -/
def tagOf : Op → Nat
  | .move _ => 0 | .assign _ => 1 | .load _ _ => 2 | .store _ _ _ => 3 | .fieldAddr _ _ _ => 4 | .nilCheck _ => 5 | .pick _ _ _ => 6
  | .unOp .not _ _ => 7 | .unOp .neg _ _ => 8 | .extract _ _ => 9 | .indexAddr _ _ _ => 10
  | .call { callee := .builtin .len, .. } => 11
  | .binOp .eql _ _ _ _ => 12 | .binOp .neq _ _ _ _ => 13 | .binOp .lss _ _ _ _ => 14 | .binOp .leq _ _ _ _ => 15 | .binOp .gtr _ _ _ _ => 16 | .binOp .geq _ _ _ _ => 17
  | .binOp .add _ _ _ _ => 18 | .binOp .sub _ _ _ _ => 19 | .binOp .mul _ _ _ _ => 20 | .binOp .rem _ _ _ _ => 21 | .binOp .quo _ _ _ _ => 22
  | .call { callee := .value (.func _), .. } => 23 | .call { callee := .value _, .. } => 24
  | .call { callee := .builtin .append, .. } => 25 | .call { callee := .builtin .min, .. } => 26 | .call { callee := .builtin .max, .. } => 27
  | .build _ _ => 28 | .buildSlice _ _ _ => 29 | .alloc _ => 30 | .box _ _ => 31 | .makeFunc _ _ _ => 32 | .makeSlice _ _ _ => 33 | .makeMap _ _ => 34 | .insert _ _ _ _ => 35
  | .lookup _ _ _ _ => 36 | .mapUpdate _ _ _ _ => 37 | .slice _ _ _ _ _ => 38 | .field _ _ _ => 39 | .index _ _ _ => 40 | .convert _ _ _ => 41
  | _ => 42
structure D (k : Nat) (p : Prop) : Prop where
  out : p
theorem St.d {P : Program} {n : Nat} {fp : List Nat} {c : Cls} {dst : Option Tmp} {op : Op} {ty : TypeId} {env : Env} {h : Heap} {N : Env → Heap → Prop} (x : D (tagOf op) (St P n fp c dst op ty env h N)) : St P n fp c dst op ty env h N := x.out
/-- Is the operation guarded? -/
def gtag (o : Oper) : Nat := match o.guard with | none => 0 | some _ => 1
theorem OW.d {P : Program} {n : Nat} {ops : Array Oper} {Q : Exit → Env → Heap → Prop} {o : Oper} {l : List Oper} {env : Env} {h : Heap} (x : D (gtag o) (OW P n ops Q (o :: l) env h)) : OW P n ops Q (o :: l) env h := x.out
/-- Which code stands next. -/
def ctag : Code → Nat
  | .seq _ _ => 0 | .region _ _ false => 1 | .region _ _ true => 2 | .cond _ _ _ => 3 | .skip => 4 | .ret => 5 | .exit _ => 6 | .block _ _ => 7 | .label _ => 8 | .loop _ => 9 | _ => 10
theorem CW.d {P : Program} {n : Nat} {c : Code} {Q : Exit → Env → Heap → Prop} {env : Env} {h : Heap} (x : D (ctag c) (CW P n c Q env h)) : CW P n c Q env h := x.out
theorem dk (k : Nat) {p : Prop} (h : p) : D k p := ⟨h⟩
end Go.CF
namespace Go.CF
open Go
/-- A call that leaves the heap as it was. -/
theorem CallsH.same {P : Program} {f : FuncId} {args : Array Value} {h : Heap} {K : Value → Heap → Prop} {v : Value} (hc : CallsH P f args h fun r h' => r = v ∧ h' = h) (k : K v h) : CallsH P f args h K :=
  hc.mono fun _ _ ⟨h1, h2⟩ => h1 ▸ h2 ▸ k
end Go.CF
namespace Go.CF
open Go
theorem Upd.keep {h h' : Heap} {b c : Nat} {T S : TypeId} {l m : List Value} (x : Upd h b T l h') (hne : c ≠ b) (hc : Blk h c S m) : Blk h' c S m := x.old hc hne
theorem Upd.keepc {h h' : Heap} {b : Nat} {T : TypeId} {l : List Value} {a : Addr} {v : Value} (x : Upd h b T l h') (hne : a.block ≠ b) (hc : Cel h a v) : Cel h' a v := x.oldc hc hne
end Go.CF
namespace Go.CF
open Go
theorem Stp.blk1 {h h' : Heap} {b c : Nat} {S : TypeId} {m : List Value} (x : Stp [b] h h') (hne : c ≠ b) (hc : Blk h c S m) : Blk h' c S m := x.blk hc (by simpa using hne)
theorem MapI.new {h h' : Heap} {b c : Nat} {T : TypeId} {l : List Value} {kk : IntKind} {kvs : List (Int × Value)} (x : New h b T l h') (hm : MapI h c kk kvs) : MapI h' c kk kvs := hm.stp (x.stp (fp := [])) (by simp)
theorem MapI.upd {h h' : Heap} {b c : Nat} {T : TypeId} {l : List Value} {kk : IntKind} {kvs : List (Int × Value)} (x : Upd h b T l h') (hne : c ≠ b) (hm : MapI h c kk kvs) : MapI h' c kk kvs := hm.stp x.stp (by simpa using hne)
end Go.CF
namespace Go.CF
open Go
theorem Cels.fld {h : Heap} {b o k : Nat} {vs : List Value} {v : Value} (hc : Cels h ⟨b, o, none⟩ vs) (hv : vs[k]? = some v) : Cel h ⟨b, o + k, none⟩ v := hc.cell hv
theorem Cels.fld0 {h : Heap} {b o : Nat} {vs : List Value} {v : Value} (hc : Cels h ⟨b, o, none⟩ vs) (hv : vs[0]? = some v) : Cel h ⟨b, o, none⟩ v := hc.cell (j := 0) hv
end Go.CF
namespace Go.CF
open Go
theorem wrap_u8 {i : Int} (h : 0 ≤ i ∧ i ≤ 255) : IntKind.u8.wrap i = i := by
  simp [IntKind.wrap, IntKind.signed, IntKind.bits]; omega
theorem wrap_u16 {i : Int} (h : 0 ≤ i ∧ i ≤ 65535) : IntKind.u16.wrap i = i := by
  simp [IntKind.wrap, IntKind.signed, IntKind.bits]; omega
theorem wrap_i64 {i : Int} (h : -9223372036854775808 ≤ i ∧ i ≤ 9223372036854775807) : IntKind.i64.wrap i = i := by
  rw [IntKind.wrap_i64]; omega
section
variable {P : Program} {tt : Nat → Option TI} {en : Nat → Bool} {fp : List Nat} {n : Nat} {c : Cls} {env : Env} {h : Heap} {N : Env → Heap → Prop} {d : Tmp} {ty : TypeId} {t u : TypeId} {x y : Operand} {k' : IntKind} {i j : Int}
theorem St.remP (hx : ev env x = some (.int k' i)) (hy : ev env y = some (.int k' j)) (h0 : 0 < j) (h1 : 0 ≤ i) (k : N ((d, .int k' (i % j)) :: env) h) : St P n fp c (some d) (.binOp .rem t x y u) ty env h N :=
  St.rem hx hy (by omega) (by rw [Int.tmod_eq_emod_of_nonneg h1]; exact k)
theorem div_le {i j : Int} (h0 : 0 < j) (h1 : 0 ≤ i) : 0 ≤ i / j ∧ i / j ≤ i := ⟨Int.ediv_nonneg h1 (by omega), Int.ediv_le_self _ h1⟩
theorem St.quoU (hx : ev env x = some (.int .u8 i)) (hy : ev env y = some (.int .u8 j)) (h0 : 0 < j) (h1 : 0 ≤ i ∧ i ≤ 255) (k : N ((d, .int .u8 (i / j)) :: env) h) : St P n fp c (some d) (.binOp .quo t x y u) ty env h N :=
  St.quo hx hy (by omega) (r := i / j) (by rw [Int.tdiv_eq_ediv_of_nonneg h1.1]; have := div_le h0 h1.1; exact wrap_u8 (by omega)) k
theorem St.quoI (hx : ev env x = some (.int .i64 i)) (hy : ev env y = some (.int .i64 j)) (h0 : 0 < j) (h1 : 0 ≤ i ∧ i ≤ 9223372036854775807) (k : N ((d, .int .i64 (i / j)) :: env) h) : St P n fp c (some d) (.binOp .quo t x y u) ty env h N :=
  St.quo hx hy (by omega) (r := i / j) (by rw [Int.tdiv_eq_ediv_of_nonneg h1.1]; have := div_le h0 h1.1; exact wrap_i64 (by omega)) k
theorem St.convI (G : PgOK P tt en) {ks : IntKind} {ti si : TI} {dst : TypeId} (hs : tt t = some si) (hd : tt dst = some ti) (hk : ti.kind = .int .i64) (hx : ev env x = some (.int ks i)) (hr : -9223372036854775808 ≤ i ∧ i ≤ 9223372036854775807) (k : N ((d, .int .i64 i) :: env) h) :
    St P n fp c (some d) (.convert t dst x) ty env h N := St.convert G hs hd hk hx (wrap_i64 hr) k
theorem St.convU8 (G : PgOK P tt en) {ks : IntKind} {ti si : TI} {dst : TypeId} (hs : tt t = some si) (hd : tt dst = some ti) (hk : ti.kind = .int .u8) (hx : ev env x = some (.int ks i)) (hr : 0 ≤ i ∧ i ≤ 255) (k : N ((d, .int .u8 i) :: env) h) :
    St P n fp c (some d) (.convert t dst x) ty env h N := St.convert G hs hd hk hx (wrap_u8 hr) k
end
end Go.CF
namespace Go.CF
open Go
section
variable {P : Program} {tt : Nat → Option TI} {en : Nat → Bool} {fp : List Nat} {n : Nat} {c : Cls} {env : Env} {h : Heap} {N : Env → Heap → Prop} {d : Tmp} {ty : TypeId} {t : TypeId} {x y : Operand}
theorem St.makeS (G : PgOK P tt en) {ti te : TI} {e : Nat} {zl : List Value} {m cp : Nat} {k1 k2 : IntKind} {mi ci : Int} (ht : tt t = some ti) (hk : ti.kind = .slice e) (hte : tt e = some te) (hz : te.zero.cells.toList = zl) (hzl : te.size = zl.length) (hB : Nat.ble te.bytes 100000 = true)
    (hx : ev env x = some (.int k1 mi)) (hy : ev env y = some (.int k2 ci)) (hmi : mi = (m : Int)) (hci : ci = (cp : Int)) (hmc : m ≤ cp) (hb : cp ≤ 1000000000) (hc : acts c = true)
    (k : ∀ b h', New h b e (zeroL zl cp) h' → b = h.size → h'.size = h.size + 1 → N ((d, .slice (some ⟨b, 0, none⟩) m cp) :: env) h') : St P n fp c (some d) (.makeSlice t x y) ty env h N :=
  St.makeSlice G ht hk hte hz hzl hx hy hmi hci hmc (Nat.le_trans (Nat.mul_le_mul (Nat.le_of_ble_eq_true hB) hb) (by decide)) (by omega) hc k
end
end Go.CF
