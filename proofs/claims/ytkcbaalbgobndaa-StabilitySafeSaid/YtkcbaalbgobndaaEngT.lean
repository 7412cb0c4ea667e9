/- Equality of flat structs of integers, and maps with such keys. Generic over the program. -/
import Derived.Test.YtkcbaalbgobndaaEngS
import Derived.Laws.StructEq
namespace Go.CF
open Go

/-! ### Flat structs of integers -/
inductive FV (P : Program) (t : TypeId) : List Int → Value → Prop where
  | int {x : Int} : P.underlying t = some (.int .i64) → FV P t [x] (.int .i64 x)
  | st {fs : Array Field} {xs : List Int} : P.underlying t = some (.struct fs) → FV P t xs (.agg (xs.map (Value.int .i64)).toArray)
def offsOK (P : Program) : List Field → Nat → Nat → Bool
  | [], o, n => Nat.beq o n
  | f :: fs, o, n => Nat.beq f.offset o && f.name != "_" && offsOK P fs (o + P.cellsOf f.type) n
def flatI (P : Program) : Nat → TypeId → Bool
  | 0, _ => false
  | d + 1, t => match P.info? t with
    | none => false
    | some i => match P.underlying t with
      | some (.int .i64) => Nat.beq i.size 1
      | some (.struct fs) => !P.stoodInHeld t && offsOK P fs.toList 0 i.size && fs.toList.all fun f => flatI P d f.type
      | _ => false
section
variable {P : Program}
theorem offsOK_le : ∀ {fs : List Field} {o n : Nat}, offsOK P fs o n = true → o ≤ n
  | [], o, n, h => by simp [offsOK] at h; omega
  | f :: fs, o, n, h => by
    simp only [offsOK, Bool.and_eq_true] at h
    have := offsOK_le h.2
    omega
theorem cells_info {t : TypeId} {i : TypeInfo} (h : P.info? t = some i) : P.cellsOf t = i.size := by simp [Program.cellsOf, h]
theorem flatI_cases {d : Nat} {t : TypeId} (h : flatI P (d + 1) t = true) : (P.underlying t = some (.int .i64) ∧ P.cellsOf t = 1) ∨ ∃ fs i, P.info? t = some i ∧ P.underlying t = some (.struct fs) ∧ P.stoodInHeld t = false ∧ offsOK P fs.toList 0 (P.cellsOf t) = true ∧ ∀ f ∈ fs.toList, flatI P d f.type = true := by
  unfold flatI at h
  split at h
  · cases h
  · rename_i i hi
    split at h
    · rename_i hu
      exact .inl ⟨hu, by rw [cells_info hi]; simpa using h⟩
    · rename_i fs hu
      simp only [Bool.and_eq_true, Bool.not_eq_true', List.all_eq_true] at h
      exact .inr ⟨fs, i, hi, hu, h.1.1, by rw [cells_info hi]; exact h.1.2, h.2⟩
    · cases h
theorem FV.part {d : Nat} {t : TypeId} (h : flatI P (d + 1) t = true) {xs : List Int} {off : Nat} (hl : off + P.cellsOf t ≤ xs.length) (w : World) :
    ∃ v, (part t (xs.map (Value.int .i64)).toArray off).run P w = .ok v w ∧ FV P t ((xs.drop off).take (P.cellsOf t)) v := by
  rcases flatI_cases h with ⟨hu, hc⟩ | ⟨fs, i, hi, hu, _, _, _⟩
  · rw [hc] at hl ⊢
    obtain ⟨x, hx⟩ : ∃ x, xs[off]? = some x := ⟨_, List.getElem?_eq_getElem (by omega)⟩
    have e1 : (xs.drop off).take 1 = [x] := by
      have : xs.drop off = x :: xs.drop (off + 1) := by rw [List.drop_eq_getElem_cons (by omega)]; congr 1; rw [List.getElem?_eq_getElem (by omega)] at hx; simpa using hx
      rw [this]; rfl
    have hag : (isAgg t).run P w = .ok false w := by simp [isAgg, run_underlying hu]
    refine ⟨.int .i64 x, ?_, by rw [e1]; exact .int hu⟩
    simp [Go.part, hag, hx]
  · have hag : (isAgg t).run P w = .ok true w := by simp [isAgg, run_underlying hu]
    have hsz : (sizeOf t).run P w = .ok (P.cellsOf t) w := by simp [sizeOf, typeInfo, hi, Program.cellsOf]
    refine ⟨.agg (((xs.drop off).take (P.cellsOf t)).map (Value.int .i64)).toArray, ?_, .st hu⟩
    simp [Go.part, hag, hsz, List.map_take, List.map_drop]
theorem eq_flat : ∀ (d : Nat) (t : TypeId), flatI P d t = true → ∀ (D : Nat), d ≤ D → ∀ (xs ys : List Int) (vx vy : Value), xs.length = P.cellsOf t → ys.length = P.cellsOf t → FV P t xs vx → FV P t ys vy → ∀ w, (Op.equalIn D t vx vy).run P w = .ok (decide (xs = ys)) w
  | 0, t, h => by simp [flatI] at h
  | d + 1, t, h => by
    intro D hD xs ys vx vy hlx hly hx hy w
    obtain ⟨D, rfl⟩ : ∃ D', D = D' + 1 := ⟨D - 1, by omega⟩
    rcases flatI_cases h with ⟨hu, hc⟩ | ⟨fs, i, hi, hu, hs, ho, ha⟩
    · cases hx with
      | st h' => rw [hu] at h'; cases h'
      | int _ =>
        cases hy with
        | st h' => rw [hu] at h'; cases h'
        | int _ =>
          rw [run_equalIn_int w D t .i64 .i64 _ _ hu]
          congr 1
          rw [Bool.eq_iff_iff]
          simp
    · cases hx with
      | int h' => rw [hu] at h'; cases h'
      | st _ =>
        cases hy with
        | int h' => rw [hu] at h'; cases h'
        | st _ =>
          have hf : P.fieldsOf t = fs := by simp [Program.fieldsOf, hu]
          rw [run_equalIn_agg w D t _ _ (by rw [hf]; exact hu) hs, hf]
          have key : ∀ (l : List Field) (off : Nat), (∀ f ∈ l, flatI P d f.type = true) → offsOK P l off (P.cellsOf t) = true →
              (Op.eqFields D (xs.map (Value.int .i64)).toArray (ys.map (Value.int .i64)).toArray l).run P w = .ok (decide (xs.drop off = ys.drop off)) w := by
            intro l
            induction l with
            | nil =>
              intro off _ ho
              have : off = P.cellsOf t := by simpa [offsOK] using ho
              subst this
              rw [List.drop_of_length_le (by omega), List.drop_of_length_le (by omega)]
              simp [Op.eqFields]
            | cons f l ih =>
              intro off hfl ho
              simp only [offsOK, Bool.and_eq_true] at ho
              obtain ⟨⟨h1, h2⟩, h3⟩ := ho
              have h1 : f.offset = off := by simpa using h1
              have hle := offsOK_le h3
              have hff := hfl f (by simp)
              obtain ⟨d', rfl⟩ : ∃ d', d = d' + 1 := by cases d with
                | zero => simp [flatI] at hff
                | succ d' => exact ⟨d', rfl⟩
              obtain ⟨va, ra, fa⟩ := FV.part hff (xs := xs) (off := off) (by omega) w
              obtain ⟨vb, rb, fb⟩ := FV.part hff (xs := ys) (off := off) (by omega) w
              have hr := eq_flat (d' + 1) f.type hff D (by omega) _ _ va vb (by rw [List.length_take, List.length_drop]; omega) (by rw [List.length_take, List.length_drop]; omega) fa fb w
              have hn : f.name ≠ "_" := by simpa using h2
              have e1 : ∀ zs : List Int, zs.drop off = (zs.drop off).take (P.cellsOf f.type) ++ zs.drop (off + P.cellsOf f.type) := fun zs => by
                rw [← List.drop_drop, List.take_append_drop]
              simp only [Op.eqFields, h1, Sem.run_ite, if_pos hn, Sem.run_bind, ra, rb, hr, Result.andThen_ok]
              by_cases he : (xs.drop off).take (P.cellsOf f.type) = (ys.drop off).take (P.cellsOf f.type)
              · rw [decide_eq_true he]
                simp only [Bool.not_true, Bool.false_eq_true, if_false]
                rw [ih (off + P.cellsOf f.type) (fun g hg => hfl g (by simp [hg])) h3]
                congr 1
                refine decide_eq_decide.2 ⟨fun h9 => by rw [e1 xs, e1 ys, he, h9], fun h9 => ?_⟩
                rw [← List.drop_drop, ← List.drop_drop, h9]
              · rw [decide_eq_false he]
                simp only [Bool.not_false, if_true, Sem.run_pure]
                congr 1
                exact (decide_eq_false (fun h9 => he (by rw [h9]))).symm
          have := key fs.toList 0 ha ho
          simpa using this
theorem check_flat (e : Bool) : ∀ (d : Nat) (t : TypeId), flatI P d t = true → ∀ (D : Nat), d ≤ D → ∀ (xs : List Int) (v : Value), xs.length = P.cellsOf t → FV P t xs v → ∀ w, (Instr.checkKey e D t v).run P w = .ok () w
  | 0, t, h => by simp [flatI] at h
  | d + 1, t, h => by
    intro D hD xs v hl hv w
    obtain ⟨D, rfl⟩ : ∃ D', D = D' + 1 := ⟨D - 1, by omega⟩
    rcases flatI_cases h with ⟨hu, hc⟩ | ⟨fs, i, hi, hu, hs, ho, ha⟩
    · cases hv with
      | st h' => rw [hu] at h'; cases h'
      | int _ => simp [Instr.checkKey, run_underlying hu]
    · cases hv with
      | int h' => rw [hu] at h'; cases h'
      | st _ =>
        simp only [Instr.checkKey, Sem.run_bind, run_underlying hu, Result.andThen_ok]
        rw [← Array.forIn_toList]
        clear hu hi hs
        generalize fs.toList = l at ho ha ⊢
        generalize (0 : Nat) = off at ho
        induction l generalizing off with
        | nil => simp
        | cons f l ih =>
          simp only [offsOK, Bool.and_eq_true] at ho
          obtain ⟨⟨h1, h2⟩, h3⟩ := ho
          have h1 : f.offset = off := by simpa using h1
          have hle := offsOK_le h3
          have hff := ha f (by simp)
          obtain ⟨d', rfl⟩ : ∃ d', d = d' + 1 := by cases d with
            | zero => simp [flatI] at hff
            | succ d' => exact ⟨d', rfl⟩
          obtain ⟨va, ra, fa⟩ := FV.part hff (xs := xs) (off := off) (by omega) w
          have hr := check_flat e (d' + 1) f.type hff D (by omega) _ va (by rw [List.length_take, List.length_drop]; omega) fa w
          have hn : f.name ≠ "_" := by simpa using h2
          have ih' := ih (fun g hg => ha g (by simp [hg])) (off + P.cellsOf f.type) h3
          simp only [List.forIn_cons, h1, if_pos hn, Sem.run_bind, ra, hr, Result.andThen_ok, Sem.run_pure]
          exact ih'
end
/-! ### Equality of structs -/
/-- A fact for the kernel. -/
structure Kf (p k : Prop) : Prop where
  p : p
  k : k
inductive ILit : List AV → List Int → Prop where
  | nil : ILit [] []
  | cons {x : Int} {l : List AV} {xs : List Int} : ILit l xs → ILit (.val (.int .i64 x) :: l) (x :: xs)
theorem ILit.rep {h : Heap} {G : Nat → Prop} : ∀ {cs : List AV} {xs : List Int} {vs : List Value}, ILit cs xs → RepT h G vs cs → vs = xs.map (Value.int .i64)
  | _, _, vs, .nil, hr => by match vs, hr with | [], _ => rfl
  | _, _, vs, .cons h1, hr => by
    match vs, hr with
    | v :: vs, ⟨g1, g2⟩ => rw [h1.rep g2, show v = _ from g1]; rfl
theorem ILit.len : ∀ {cs : List AV} {xs : List Int}, ILit cs xs → cs.length = xs.length
  | _, _, .nil => rfl
  | _, _, .cons h => by simp [h.len]
structure Il (cs : List AV) (M : List Int → Prop) : Prop where
  ok : ∃ xs, ILit cs xs ∧ M xs
theorem Il.r {cs : List AV} {M : List Int → Prop} {xs : List Int} (h : ILit cs xs) (hm : M xs) : Il cs M := ⟨xs, h, hm⟩
section
variable {Γ : Cx} {k : List KI} {e : EA} {o : List Res} {N : NA} {c : Cls} {d : Tmp} {ty : TypeId} {x y z : Operand} {t u : TypeId} {kk : IntKind} {i : Int}
theorem flat_st {P : Program} {t : TypeId} (hf : flatI P 4 t = true) (h2 : 2 ≤ P.cellsOf t) : ∃ fs, P.underlying t = some (.struct fs) := by
  rcases flatI_cases hf with ⟨_, h⟩ | ⟨fs, _, _, h, _⟩
  · omega
  · exact ⟨fs, h⟩
theorem St.eqS {P : Program} {n : Nat} {fp : List Nat} {env : Env} {h : Heap} {N : Env → Heap → Prop} {xs ys : List Int} (hk : (flatI P 4 t && !P.eqGuardType P.depth t && Nat.ble 2 (P.cellsOf t) && Nat.beq (P.cellsOf t) xs.length && Nat.beq (P.cellsOf t) ys.length) = true)
    (hx : ev env x = some (.agg (xs.map (Value.int .i64)).toArray)) (hy : ev env y = some (.agg (ys.map (Value.int .i64)).toArray)) (b : Bool) (k : N ((d, .bool (if b then decide (xs = ys) else !decide (xs = ys))) :: env) h) :
    St P n fp c (some d) (.binOp (if b then .eql else .neq) t x y u) ty env h N :=
  .ofPu (v := .bool (if b then decide (xs = ys) else !decide (xs = ys))) (fun ac w ha => by
    simp only [Bool.and_eq_true, Bool.not_eq_true', Nat.ble_eq] at hk
    obtain ⟨⟨⟨⟨h1, h2⟩, h3⟩, h4⟩, h5⟩ := hk
    obtain ⟨fs, hu⟩ := flat_st h1 h3
    have hr := eq_flat 4 t h1 10000 (by decide) xs ys _ _ (Nat.eq_of_beq_eq_true h4).symm (Nat.eq_of_beq_eq_true h5).symm (.st hu) (.st hu) w
    have hg := fun op => run_eqGuard_agg (P := P) w op t x y (xs.map (Value.int .i64)).toArray (ys.map (Value.int .i64)).toArray h2
    cases b with
    | true => simp [mkOp, execOp, ha.ev hx, ha.ev hy, hg, run_eql_struct, hr]
    | false => simp [mkOp, execOp, ha.ev hx, ha.ev hy, hg, run_neq_struct, hr]) k
instance {cs ds : List AV} : Sp (Ap2 Γ c d (.binOp .eql t x y u) ty e o N x (.agg cs) y (.agg ds)) (Il cs fun xs => Il ds fun ys => Kf ((flatI Γ.P 4 t && !Γ.P.eqGuardType Γ.P.depth t && Nat.ble 2 (Γ.P.cellsOf t) && Nat.beq (Γ.P.cellsOf t) xs.length && Nat.beq (Γ.P.cellsOf t) ys.length) = true) (N ((d, .val (.bool (decide (xs = ys)))) :: e) o)) := ⟨fun ⟨xs, h1, ys, h2, hn⟩ => pu2 fun env h G v w g1 g2 r1 r2 => by
  obtain ⟨vs, rfl, q1⟩ := r1
  obtain ⟨ws, rfl, q2⟩ := r2
  rw [h1.rep q1.t] at g1
  rw [h2.rep q2.t] at g2
  exact ⟨.val (.bool (decide (xs = ys))), _, rfl, hn.k, fun _ hk => St.eqS hn.p g1 g2 true hk⟩⟩
instance {cs ds : List AV} : Sp (Ap2 Γ c d (.binOp .neq t x y u) ty e o N x (.agg cs) y (.agg ds)) (Il cs fun xs => Il ds fun ys => Kf ((flatI Γ.P 4 t && !Γ.P.eqGuardType Γ.P.depth t && Nat.ble 2 (Γ.P.cellsOf t) && Nat.beq (Γ.P.cellsOf t) xs.length && Nat.beq (Γ.P.cellsOf t) ys.length) = true) (N ((d, .val (.bool (decide (¬ xs = ys)))) :: e) o)) := ⟨fun ⟨xs, h1, ys, h2, hn⟩ => pu2 fun env h G v w g1 g2 r1 r2 => by
  obtain ⟨vs, rfl, q1⟩ := r1
  obtain ⟨ws, rfl, q2⟩ := r2
  rw [h1.rep q1.t] at g1
  rw [h2.rep q2.t] at g2
  exact ⟨.val (.bool (decide (¬ xs = ys))), .bool (!decide (xs = ys)), (by simp [AV.val]), hn.k, fun _ hk => St.eqS hn.p g1 g2 false hk⟩⟩
/-! ### Is a slice nil? -/
instance {α : Type} {sz : Nat} {l : List α} {f : α → List AV} {m cp : Nat} : Sp (Ap2 Γ c d (.binOp .eql t x y u) ty e o N x (.sl sz l f) y (.val (.slice none m cp))) (Lk (slE Γ.tt t) fun _ => All fun b : Bool => Im (l ≠ [] → b = false) (N ((d, .val (.bool b)) :: e) o)) := ⟨fun ⟨p, hp, hn⟩ => pu2 fun env h G v w g1 g2 r1 r2 => by
  obtain ⟨rows, hs, _, _⟩ := AV.sl_stp r1
  obtain ⟨q, cap, rfl⟩ := hs.shape
  have r2 : w = _ := r2
  subst r2
  obtain ⟨ti, t1, t2, t3⟩ := slE_spec hp
  refine ⟨.val (.bool q.isNone), _, rfl, (hn.ok q.isNone).k fun hne => ?_, fun _ hk => St.eql_snil Γ.ok t1 t2 g1 g2 hk⟩
  obtain ⟨_, ⟨h0, _⟩ | ⟨b, of, cp, rs, e1, _⟩⟩ := r1
  · exact absurd h0 hne
  · cases e1; rfl⟩
instance {v : Value} {m cp : Nat} : Sp (Ap2 Γ c d (.binOp .eql t x y u) ty e o N x (.ow v) y (.val (.slice none m cp))) (Lk (slE Γ.tt t) fun _ => TkA o v fun _ _ l _ _ => All fun b : Bool => Im (l ≠ [] → b = false) (N ((d, .val (.bool b)) :: e) o)) := ⟨fun ⟨p, hp, α, T, sz, l, f, rest, tk, hn⟩ => ⟨fun ha hb => ⟨fun env hh G Os cn => by
  obtain ⟨w, h1, rfl, q, len, cap, rfl⟩ := cn.get ha
  obtain ⟨w', h2, h3⟩ := cn.get hb
  have h3 : w' = _ := h3
  subst h3
  obtain ⟨O, Os', cn2⟩ := cn.take tk
  obtain ⟨⟨_, rows, hw, _⟩, _⟩ := cn2.hp.own
  obtain ⟨ti, t1, t2, t3⟩ := slE_spec hp
  refine St.eql_snil Γ.ok t1 t2 h1 h2 (CN.mk (cn.put d (a := .val (.bool q.isNone)) rfl) ((hn.ok q.isNone).k fun hne => ?_))
  rcases hw.ok with ⟨_, e2⟩ | ⟨b', of, cap', L, e1, _⟩
  · exact absurd (List.eq_nil_of_length_eq_zero e2) hne
  · cases e1; rfl⟩⟩⟩
instance {q : Option Addr} {m' cp' m cp : Nat} : Sp (Ap2 Γ c d (.binOp .eql t x y u) ty e o N x (.val (.slice q m' cp')) y (.val (.slice none m cp))) (Lk (slE Γ.tt t) fun _ => N ((d, .val (.bool q.isNone)) :: e) o) := ⟨fun ⟨p, hp, hn⟩ => puv2 hn fun _ _ _ h h' k => by
  obtain ⟨ti, t1, t2, t3⟩ := slE_spec hp
  exact St.eql_snil Γ.ok t1 t2 h h' k⟩
end
end Go.CF
