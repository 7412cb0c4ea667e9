/- Part 10 of the ground of this proof: what its texts say of the model, the program and the plain data; conditions: those that are named. -/
import Derived.Shelf.Slices.In.SortNone
import Derived.Test.YtmllihbhphnolaaGreatP09
namespace Go.Proofs.YtmllihbhphnolaaGreat
open Go Go.CF
set_option maxRecDepth 20000
theorem bit_a (b : Bool) : CallA Tryz.prog 249 [bl b] [] fun r own => ∃ v, r = .ow v ∧ own = [arrR v 3 1 [[it (if b = true then 1 else 0)]] id] := by
 refine CallA.of pg ord249 Tryz.func249 rfl Tryz.ntmps249 Tryz.results249 rfl fun h0 G0 O0 => ?_
 cases b with
 | true =>
  repeat' (first|refine Sp.h ?_|refine Lk.r rfl ?_|refine Rf.mk rfl ?_|(refine All.mk ?_;intro _)|(apply Fk.r;(focus (repeat (first|exact FillA.nil|(apply FillA.agg;(focus rfl);(focus rfl);(focus (repeat (first|exact SetAs.z|(apply SetAs.c;(focus (repeat first|assumption|constructor)))))))|(apply FillA.one;(focus rfl);(focus infer_instance);(focus (repeat first|assumption|constructor)))))))|(apply Nm.r;focus repeat constructor)|refine Rf.mk ⟨rfl, rfl, rfl⟩ ?_|fail)
  exact ⟨_, _, .one (.same (.nil (by (repeat first|exact .nil|refine .cons (by repeat constructor) ?_)))), _, rfl, rfl⟩
 | false =>
  repeat' (first|refine Sp.h ?_|refine Lk.r rfl ?_|refine Rf.mk rfl ?_|(refine All.mk ?_;intro _)|(apply Fk.r;(focus (repeat (first|exact FillA.nil|(apply FillA.agg;(focus rfl);(focus rfl);(focus (repeat (first|exact SetAs.z|(apply SetAs.c;(focus (repeat first|assumption|constructor)))))))|(apply FillA.one;(focus rfl);(focus infer_instance);(focus (repeat first|assumption|constructor)))))))|(apply Nm.r;focus repeat constructor)|refine Rf.mk ⟨rfl, rfl, rfl⟩ ?_|fail)
  exact ⟨_, _, .one (.same (.nil (by (repeat first|exact .nil|refine .cons (by repeat constructor) ?_)))), _, rfl, rfl⟩
theorem bit_p (b : Bool) : CallP Tryz.prog 249 [bl b] (ints [if b = true then 1 else 0]) :=
 CallA.fx (bit_a b) fun _ _ ⟨_, e1, e2⟩ => by
  subst e1;subst e2
  exact .sl .here (Nat.le_of_ble_eq_true rfl) (.agg (.le (ALe.refl _) .nil) .nil) .nil
def setB (t : TblS) (g : MgS) : Bool := if t.kind = 2 then g.put || decide (0 < g.marks.length) else g.put && !g.drop && decide (g.marks.length = 0)
def setV (t : TblS) (g : MgS) : List Int := [if setB t g = true then 1 else 0]
theorem valuesS_p (t : TblS) (g : MgS) (h : t.kind = 2 ∨ t.kind = 3) : CallP Tryz.prog 186 [.agg (tblC t), .agg (mgC g)] (ints (setV t g)) := by
 obtain ⟨put, drop, l⟩ := g
 rcases h with h|h
 ·have hB : setB t ⟨put, drop, l⟩ = (put || decide (0 < l.length)) := if_pos h
  refine CallA.of pg ord186 Tryz.func186 rfl Tryz.ntmps186 Tryz.results186 rfl fun h0 G0 O0 => ?_
  cases put with
  | true =>
   repeat' (first|refine Sp.h ?_|refine Lk.r rfl ?_|refine Rf.mk rfl ?_|(apply Bd.t;(focus first|assumption|omega|rfl))|(refine All.mk ?_;intro _)|(apply TkB.r;(focus repeat constructor))|(apply Nm.r;focus repeat constructor)|(apply Cl.p (bit_p _);(focus repeat' (first|exact Lend.nil|apply Lend.keep|fail))))
   exact Fin.p rfl (congrArg ints (by unfold setV;rw [hB];simp))
  | false =>
   repeat' (first|refine Sp.h ?_|refine Lk.r rfl ?_|refine Rf.mk rfl ?_|(apply Bd.t;(focus first|assumption|omega|rfl))|(refine Im.mk ?_;intro _)|(refine All.mk ?_;intro _)|(apply TkB.r;(focus repeat constructor))|(apply Nm.r;focus repeat constructor)|(apply Cl.p (bit_p _);(focus repeat' (first|exact Lend.nil|apply Lend.keep|fail))))
   exact Fin.p rfl (congrArg ints (by unfold setV;rw [hB];simp))
 ·have hB : setB t ⟨put, drop, l⟩ = (put && !drop && decide (l.length = 0)) := if_neg (by omega)
  refine CallA.of pg ord186 Tryz.func186 rfl Tryz.ntmps186 Tryz.results186 rfl fun h0 G0 O0 => ?_
  cases put with
  | true =>
   cases drop with
   | true =>
    repeat' (first|refine Sp.h ?_|refine Lk.r rfl ?_|refine Rf.mk rfl ?_|(apply Bd.t;(focus first|assumption|omega|rfl))|(apply Bd.f;(focus first|assumption|omega|exact Bool.false_ne_true))|(refine All.mk ?_;intro _)|(apply TkB.r;(focus repeat constructor))|(apply Nm.r;focus repeat constructor)|(apply Cl.p (bit_p _);(focus repeat' (first|exact Lend.nil|apply Lend.keep|fail))))
    exact Fin.p rfl (congrArg ints (by unfold setV;rw [hB];simp))
   | false =>
    repeat' (first|refine Sp.h ?_|refine Lk.r rfl ?_|refine Rf.mk rfl ?_|(apply Bd.t;(focus first|assumption|omega|rfl))|(apply Bd.f;(focus first|assumption|omega|exact Bool.false_ne_true))|(refine Im.mk ?_;intro _)|(refine All.mk ?_;intro _)|(apply TkB.r;(focus repeat constructor))|(apply Nm.r;focus repeat constructor)|(apply Cl.p (bit_p _);(focus repeat' (first|exact Lend.nil|apply Lend.keep|fail))))
    exact Fin.p rfl (congrArg ints (by unfold setV;rw [hB];simp))
  | false =>
   repeat' (first|refine Sp.h ?_|refine Lk.r rfl ?_|refine Rf.mk rfl ?_|(apply Bd.t;(focus first|assumption|omega|rfl))|(apply Bd.f;(focus first|assumption|omega|exact Bool.false_ne_true))|(refine All.mk ?_;intro _)|(apply TkB.r;(focus repeat constructor))|(apply Nm.r;focus repeat constructor)|(apply Cl.p (bit_p _);(focus repeat' (first|exact Lend.nil|apply Lend.keep|fail))))
   exact Fin.p rfl (congrArg ints (by unfold setV;rw [hB];simp))
end Go.Proofs.YtmllihbhphnolaaGreat
namespace Go.CF
open Go
section
variable {Γ : Cx} {k : List KI} {e : EA} {o : List Res} {N : NA} {c : Cls} {d : Tmp} {ty : TypeId} {x y z : Operand} {t u : TypeId} {kk : IntKind} {i : Int}
instance {v : Value} {s j m : Nat} : Sp (Ap1 Γ c d (.call { callee := .builtin .len, args := #[x], argTypes := #[t] }) ty e o N x (.os v s j m)) (Lk (slE Γ.tt t) fun _ => N ((d, .val (.int .i64 (m : Int))) :: e) o) := ⟨fun ⟨p, hp, hn⟩ => ⟨fun ha => ⟨fun env hh G Os cn => by
 obtain ⟨w, h1, q, len, cap, rfl, hle, rfl⟩ := cn.get ha
 obtain ⟨ti, t1, t2, t3⟩ := slE_spec hp
 exact St.len Γ.ok t1 t2 h1 (CN.mk (cn.put d (a := .val _) rfl) hn)⟩⟩⟩
instance {v : Value} {s j m : Nat} : Sp (Ap2 Γ c d (.indexAddr t x y) ty e o N x (.os v s j m) y (.val (.int kk i))) (Lk (slE Γ.tt t) fun p => TkA o v fun _ sz _ _ _ => Rf (p.2.size = sz ∧ s = sz) (Sx i m fun q => N ((d, .oe v sz (j + q) 0) :: e) o)) := ⟨fun ⟨p, hp, α, T, sz, l, f, rest, tk, hz, q, hi, hq, hn⟩ => ⟨fun ha hb => ⟨fun env hh G Os cn => by
 obtain ⟨hz, rfl⟩ := hz
 obtain ⟨w, h1, q', len, cap, rfl, hle, rfl⟩ := cn.get ha
 obtain ⟨w', h1', h2'⟩ := cn.get hb
 have hw : w' = .int kk i := h2'
 subst hw
 obtain ⟨O, Os', cn2⟩ := cn.take tk
 obtain ⟨⟨_, rows, hw, _⟩, _⟩ := cn2.hp.own
 obtain ⟨ti, t1, t2, t3⟩ := slE_spec hp
 rcases hw.ok with ⟨he, h0⟩|⟨b, of, cap', L, he, _, _, hcap, _⟩
 ·cases he;omega
 ·cases he
  have hs : subA (some ⟨b, of, none⟩) s j cap = some ⟨b, of + j * s, none⟩ := by
   unfold subA
   rw [if_neg (by omega)]
   simp [addr_add]
  rw [hs] at h1
  exact St.indexAddr Γ.ok t1 t2 t3 h1 h1' hi hq (CN.mk (cn.put d (a := .oe _ s (j + q) 0) ⟨b, of, _, cap, rfl, by rw [hz, Nat.add_zero, Nat.add_mul, Nat.add_assoc]⟩) hn)⟩⟩⟩
theorem ALe.tup {l m : List AV} (r : RLe l m) : ALe (.tup l) (.tup m) := ⟨fun ⟨vs, h1, h2⟩ => ⟨vs, h1, r.rep h2⟩⟩
theorem ALe.agg {l m : List AV} (r : RLe l m) : ALe (.agg l) (.agg m) := ⟨fun ⟨vs, h1, h2⟩ => ⟨vs, h1, ⟨r.rep h2.t, h2.one⟩⟩⟩
end

/-! ### The library's sorts -/
section
open Go.Sort
theorem putCells_list {α : Type} [Inhabited α] (enc : α → Value) (o : Nat) (d : List α) (c : List Value) (hd : o + d.length ≤ c.length) :
  putCells enc o d.toArray c.toArray = (c.take o ++ d.map enc ++ c.drop (o + d.length)).toArray := by
 apply Array.ext'
 simp only [putCells]
 refine List.ext_getElem? fun q => ?_
 simp only [Array.toList_mapIdx, List.getElem?_mapIdx, List.size_toArray]
 by_cases g1 : q < o
 ·have h2 : q < c.length := by omega
  rw [List.append_assoc, List.getElem?_append_left (by simp;omega), List.getElem?_take, if_pos g1, List.getElem?_eq_getElem h2, Option.map_some, if_neg (by omega)]
 ·by_cases g2 : q < o + d.length
  ·have h2 : q < c.length := by omega
   have h3 : q - o < d.length := by omega
   rw [List.getElem?_append_left (by simp;omega), List.getElem?_append_right (by simp;omega), List.getElem?_eq_getElem h2, Option.map_some, if_pos (by omega), List.length_take, Nat.min_eq_left (by omega), List.getElem?_map, List.getElem?_eq_getElem h3]
   simp [getElem!_pos, h3]
  ·rw [List.getElem?_append_right (by simp;omega), List.getElem?_drop]
   simp only [List.length_append, List.length_take, List.length_map, Nat.min_eq_left (show o ≤ c.length by omega)]
   rw [show o + d.length + (q - (o + d.length)) = q by omega]
   cases hq : c[q]? with
   | none => rfl
   | some x => rw [Option.map_some, if_neg (by omega)]
theorem flat_one {α β : Type} (g : α → β) : ∀ l : List α, (l.map fun x => [g x]).flatten = l.map g
 | [] => rfl
 | a :: l => by simp [flat_one g l]
theorem put_own {α : Type} [Inhabited α] {enc : α → Value} {w w' : World} {b of n cap len T sz : Nat} {L : List Value} {ds : List α} {os : Array Obj} (hb : Blk w.heap b T L) (ho : of + cap * sz ≤ L.length) (hlen : len ≤ cap) (hd : ds.length = len * sz)
  (hw' : w' = Sort.grow (putRow enc (Sort.ahead w n) b of ds.toArray) os) :
  Same w w' ∧ FPx (fun x => ¬ x = b) w.heap w'.heap ∧ Own w'.heap (.slice (some ⟨b, of, none⟩) len cap) T sz len (ds.map enc) := by
 have hm : len * sz ≤ cap * sz := Nat.mul_le_mul_right _ hlen
 have hg := hb.get
 have hlt := (Array.getElem?_eq_some_iff.1 hg).1
 have hh : w'.heap = w.heap.modify b (onCells (putCells enc of ds.toArray)) ++ os := by rw [hw'];rfl
 refine ⟨⟨by subst hw';rfl, by subst hw';rfl, by subst hw';rfl, by subst hw';exact Nat.le_add_right _ _, by rw [hh];simp, fun k o hk ho => ?_⟩, ⟨?_, fun q hq hl => ?_⟩, by simp [hd], .inr ⟨b, of, cap, L.take of ++ ds.map enc ++ L.drop (of + ds.length), rfl, ⟨?_⟩, ?_, hlen, ?_⟩⟩
 ·have hkl := (Array.getElem?_eq_some_iff.1 hk).1
  rw [hh, Array.getElem?_append_left (by simpa using hkl), Array.getElem?_modify]
  by_cases hkb : b = k
  ·subst hkb;rw [hg] at hk;cases hk;cases ho
  ·rw [if_neg hkb];exact hk
 ·rw [hh];simp
 ·rw [hh, Array.getElem?_append_left (by simpa using hl), Array.getElem?_modify, if_neg (fun e => hq e.symm)]
 ·rw [hh, Array.getElem?_append_left (by simpa using hlt), Array.getElem?_modify, if_pos rfl, hg, Option.map_some]
  simp only [onCells]
  rw [putCells_list enc of ds L (by omega)]
 ·simp only [List.length_append, List.length_take, List.length_map, List.length_drop]
  omega
 ·rw [List.append_assoc, List.drop_append_of_le_length (by simp;omega), List.drop_eq_nil_of_le (by simp;omega), List.nil_append, List.take_append_of_le_length (by simp;omega), List.take_of_length_le (by simp;omega)]
theorem holds_blk {w : World} {b of T : Nat} {L : List Value} (hb : Blk w.heap b T L) {α : Type} [Inhabited α] (enc : α → Value) (ds : List α) (hd : (L.drop of).take ds.length = ds.map enc) : Holds enc w b of ds.toArray := by
 intro j hj
 have hj : j < ds.length := by simpa using hj
 have h1 : ((L.drop of).take ds.length)[j]? = some (enc ds[j]) := by rw [hd];simp [hj]
 rw [List.getElem?_take, if_pos hj, List.getElem?_drop] at h1
 have hg := hb.get
 constructor
 ·simp only [World.cell?, hg]
  simp [h1, hj]
 ·simp [World.frozen?, hg]
open Go.Proofs in
theorem sortI_a {P : Program} {ρ : Shelf.Ren} (L : Lays.n189 P ρ) (v : Value) (T : TypeId) (l : List Int) (hl : l.length ≤ 1000000) :
  CallA P (ρ.f 189) [.ow v] [arrR v T 1 l fun x => [.val (.int .i64 x)]] fun r own => r = .tup [] ∧ own = [arrR v T 1 (l.mergeSort fun x y => decide (x ≤ y)) fun x => [.val (.int .i64 x)]] := by
 refine ⟨fun h G Os vs hr hp => ?_⟩
 match vs, hr with
 | [w0], ⟨⟨h1, p, len, cap, h2⟩, _⟩ =>
  subst h1
  match Os, hp with
  | [O], hp =>
   obtain ⟨⟨hO, rows, hown, hrows⟩, _⟩ := hp.own
   have hflat : rows.flatten = l.map (Value.int .i64) := by
    have h3 : rows = l.map fun x => [Value.int .i64 x] := by
     refine List.ext_getElem? fun q => ?_
     rw [List.getElem?_map]
     cases hq : l[q]? with
     | none =>
      have := List.getElem?_eq_none_iff.1 hq
      have := hrows.len
      rw [List.getElem?_eq_none (by omega)];rfl
     | some x =>
      obtain ⟨row, g1, g2, _⟩ := hrows.at hq
      rw [g1]
      have : row = [Value.int .i64 x] := repT_val (r := [.int .i64 x]) g2.t
      rw [this];rfl
    rw [h3, flat_one]
   have fin : ∀ rows', rows' = (l.mergeSort fun x y => decide (x ≤ y)).map (fun x => [Value.int .i64 x]) → ∀ h' G', Rows h' G' 1 rows' (l.mergeSort fun x y => decide (x ≤ y)) fun x => [AV.val (.int .i64 x)] := by
    rintro _ rfl h' G'
    refine ⟨by simp, fun q r x g1 g2 => ?_, fun r hr => ?_⟩
    ·rw [List.getElem?_map, g2] at g1
     cases g1
     exact ⟨⟨rfl, trivial⟩, by simp [Value.oneCell']⟩
    ·obtain ⟨x, _, rfl⟩ := List.mem_map.1 hr;rfl
   have hff : ∀ s : List Int, (s.map fun x => [Value.int .i64 x]).flatten = s.map (Value.int .i64) := fun s => flat_one _ s
   rw [hflat] at hown
   refine ⟨fun w hw => ?_⟩
   subst hw
   rcases hown.ok with ⟨he, h0⟩|⟨b, of, cap', L', he, hb, h3, h4, h5⟩
   ·have hl0 : l = [] := List.eq_nil_of_length_eq_zero h0
    subst hl0
    subst he
    refine (Any.slices_Sort_int_none L none 0 w).mono ?_
    rintro e w' ⟨rfl, rfl⟩
    exact ⟨_, rfl, Same.refl _, .tup [], _, G, [O], ⟨rfl, rfl⟩, ⟨[], rfl, trivial⟩, ⟨⟨⟨hO, rows, by rw [hflat];simpa using hown, by simpa using hrows⟩, trivial⟩, hp.g, hp.g0, hp.o, hp.d, hp.fp⟩⟩
   ·subst he
    rw [Nat.mul_one] at h3 h5
    have hH := holds_blk hb (Value.int .i64) l (by simpa using h5)
    refine (calls_of_every_depth fun D => AnyS.slices_Sort_int_in L.lead D b of cap' l w hH hb.lt (by omega)).mono ?_
    rintro e w' ⟨rfl, n, os, hw'⟩
    obtain ⟨k1, k2, k3⟩ := put_own (ds := l.mergeSort fun x y => decide (x ≤ y)) (sz := 1) (len := l.length) (cap := cap') hb (by omega) h4 (by simp) hw'
    have hOb : ∀ x, O x ↔ x = b := fun x => by rw [hO];simp [blkOf]
    have k2' : FPx (fun x => ¬ O x) w.heap w'.heap := k2.mono fun x hx e => hx ((hOb x).2 e)
    obtain ⟨k4, _⟩ := hp.upd (R' := arrR (.slice (some ⟨b, of, none⟩) l.length cap') T 1 (l.mergeSort fun x y => decide (x ≤ y)) fun x => [.val (.int .i64 x)]) (O' := O) k2'
     (fun x hx => ⟨Nat.lt_of_lt_of_le (hp.o O (by simp) x hx).1 k2.size, .inl hx⟩)
     ⟨hO, _, by rw [hff];simpa using k3, fin _ rfl _ _⟩
    exact ⟨_, rfl, k1, .tup [], _, G, [O], ⟨rfl, rfl⟩, ⟨[], rfl, trivial⟩, k4⟩
end
end Go.CF
namespace Go.Proofs.YtmllihbhphnolaaGreat
open Go Go.CF
set_option maxRecDepth 20000
def laysSort_ren : Go.Shelf.Ren := ⟨fun | 189 => 70 | 125 => 140 | 257 => 139 | 128 => 221 | 129 => 222 | 294 => 212 | 295 => 213 | 296 => 214 | 297 => 215 | 298 => 216 | 299 => 217 | 216 => 218 | 300 => 219 | 301 => 220 | 328 => 261 | 329 => 262 | 330 => 263 | 331 => 264 | 332 => 265 | 215 => 224 | 343 => 287|n => n, fun | 28 => 22 | 3 => 3 | 46 => 215 | 0 => 0 | 51 => 287 | 53 => 289 | 4 => 4 | 183 => 280 | 182 => 279 | 131 => 259 | 5 => 5 | 9 => 9 | 218 => 316 | 222 => 320 | 228 => 340 | 229 => 341|n => n, fun|n => n⟩
theorem laysSort : Go.Proofs.Lays.n189 Tryz.prog laysSort_ren := {
 mixed := by kernel_rfl,
 f125 := Tryz.func140.trans (congrArg some (by kernel_rfl)),
 f128 := Tryz.func221.trans (congrArg some (by kernel_rfl)),
 f129 := Tryz.func222.trans (congrArg some (by kernel_rfl)),
 f189 := Tryz.func70.trans (congrArg some (by kernel_rfl)),
 f215 := Tryz.func224.trans (congrArg some (by kernel_rfl)),
 f216 := Tryz.func218.trans (congrArg some (by kernel_rfl)),
 f257 := Tryz.func139.trans (congrArg some (by kernel_rfl)),
 f294 := Tryz.func212.trans (congrArg some (by kernel_rfl)),
 f295 := Tryz.func213.trans (congrArg some (by kernel_rfl)),
 f296 := Tryz.func214.trans (congrArg some (by kernel_rfl)),
 f297 := Tryz.func215.trans (congrArg some (by kernel_rfl)),
 f298 := Tryz.func216.trans (congrArg some (by kernel_rfl)),
 f299 := Tryz.func217.trans (congrArg some (by kernel_rfl)),
 f300 := Tryz.func219.trans (congrArg some (by kernel_rfl)),
 f301 := Tryz.func220.trans (congrArg some (by kernel_rfl)),
 f328 := Tryz.func261.trans (congrArg some (by kernel_rfl)),
 f329 := Tryz.func262.trans (congrArg some (by kernel_rfl)),
 f330 := Tryz.func263.trans (congrArg some (by kernel_rfl)),
 f331 := Tryz.func264.trans (congrArg some (by kernel_rfl)),
 f332 := Tryz.func265.trans (congrArg some (by kernel_rfl)),
 f343 := Tryz.func287.trans (congrArg some (by kernel_rfl)),
 t0 := Tryz.underlying0,
 a0 := Tryz.isAgg0,
 z0 := Tryz.sizeOf0,
 v0 := Tryz.zeroValue0,
 t3 := Tryz.underlying3,
 a3 := Tryz.isAgg3,
 z3 := Tryz.sizeOf3,
 v3 := Tryz.zeroValue3,
 t4 := Tryz.underlying4,
 a4 := Tryz.isAgg4,
 z4 := Tryz.sizeOf4,
 v4 := Tryz.zeroValue4,
 t5 := Tryz.underlying5,
 a5 := Tryz.isAgg5,
 z5 := Tryz.sizeOf5,
 v5 := Tryz.zeroValue5,
 t9 := Tryz.underlying9,
 a9 := Tryz.isAgg9,
 z9 := Tryz.sizeOf9,
 v9 := Tryz.zeroValue9,
 t28 := Tryz.underlying22,
 a28 := Tryz.isAgg22,
 z28 := Tryz.sizeOf22,
 v28 := Tryz.zeroValue22,
 t46 := Tryz.underlying215,
 a46 := Tryz.isAgg215,
 z46 := Tryz.sizeOf215,
 v46 := Tryz.zeroValue215,
 t51 := Tryz.underlying287,
 a51 := Tryz.isAgg287,
 z51 := Tryz.sizeOf287,
 v51 := Tryz.zeroValue287,
 t53 := Tryz.underlying289,
 a53 := Tryz.isAgg289,
 z53 := Tryz.sizeOf289,
 v53 := Tryz.zeroValue289,
 t131 := Tryz.underlying259,
 a131 := Tryz.isAgg259,
 z131 := Tryz.sizeOf259,
 v131 := Tryz.zeroValue259,
 t182 := Tryz.underlying279,
 a182 := Tryz.isAgg279,
 z182 := Tryz.sizeOf279,
 v182 := Tryz.zeroValue279,
 t183 := Tryz.underlying280,
 a183 := Tryz.isAgg280,
 z183 := Tryz.sizeOf280,
 v183 := Tryz.zeroValue280,
 t218 := Tryz.underlying316,
 a218 := Tryz.isAgg316,
 z218 := Tryz.sizeOf316,
 v218 := Tryz.zeroValue316,
 t222 := Tryz.underlying320,
 a222 := Tryz.isAgg320,
 z222 := Tryz.sizeOf320,
 v222 := Tryz.zeroValue320,
 t228 := Tryz.underlying340,
 a228 := Tryz.isAgg340,
 z228 := Tryz.sizeOf340,
 v228 := Tryz.zeroValue340,
 t229 := Tryz.underlying341,
 a229 := Tryz.isAgg341,
 z229 := Tryz.sizeOf341,
 v229 := Tryz.zeroValue341 }
abbrev i1 : Int → List AV := fun x => [.val (.int .i64 x)]
def srtI (l : List Int) : List Int := l.mergeSort fun x y => decide (x ≤ y)
theorem sortInt_a (v : Value) (T : TypeId) (l : List Int) (hl : l.length ≤ 1000000) : CallA Tryz.prog 70 [.ow v] [arrR v T 1 l i1] fun r own => r = .tup [] ∧ own = [arrR v T 1 (srtI l) i1] :=
 sortI_a laysSort v T l hl
noncomputable def ddN {α : Type} (l : List α) : Nat → List α
 | 0 => []
 | i + 1 => @ite _ (0 < i ∧ l[i]? = l[i - 1]?) (Classical.propDecidable _) (ddN l i) (ddN l i ++ l[i]?.toList)
noncomputable def dd {α : Type} (l : List α) : List α := ddN l l.length
theorem ddN_eq {α : Type} {l : List α} {i : Nat} (h0 : 0 < i) (h : l[i]? = l[i - 1]?) : ddN l (i + 1) = ddN l i := by
 rw [ddN];exact @if_pos _ (Classical.propDecidable _) ⟨h0, h⟩ _ _ _
theorem ddN_ne {α : Type} {l : List α} {i : Nat} {x : α} (hx : l[i]? = some x) (h : 0 < i → l[i]? ≠ l[i - 1]?) : ddN l (i + 1) = ddN l i ++ [x] := by
 rw [ddN, hx]
 exact @if_neg _ (Classical.propDecidable _) (fun e => h e.1 (by rw [hx];exact e.2)) _ _ _
theorem ddN_len {α : Type} {l : List α} : ∀ i, (ddN l i).length ≤ i
 | 0 => Nat.le_refl _
 | i + 1 => by
  have := ddN_len (l := l) i
  rw [ddN]
  cases l[i]? <;> (split <;> simp <;> omega)
theorem ddN_take {α : Type} {l : List α} {i : Nat} (hi : i ≤ l.length) (h : ∀ j, 0 < j → j < i → l[j]? ≠ l[j - 1]?) : ddN l i = l.take i := by
 induction i with
 | zero => rfl
 | succ i ih =>
  have hx := List.getElem?_eq_getElem (show i < l.length by omega)
  rw [ddN_ne hx (fun h0 => h i h0 (by omega)), ih (by omega) (fun j h1 h2 => h j h1 (by omega)), List.take_add_one, hx];rfl
abbrev vI (x : Int) : List Value := [.int .i64 x]
theorem vI_map (l : List Int) : (l.map vI).map valR = l.map i1 := by rw [List.map_map];rfl
set_option maxHeartbeats 1000000 in
theorem compactI_a (w : Value) (l : List Int) (hl : l.length ≤ 1000000) : CallA Tryz.prog 71 [.ow w] [arrR w 3 1 l i1] fun q own => ∃ w', q = .ow w' ∧ own = [arrR w' 3 1 (dd l) i1] := by
 refine CallA.of pg ord71 Tryz.func71 rfl Tryz.ntmps71 Tryz.results71 rfl fun h0 G0 O0 => ?_
 by_cases h2 : l.length < 2
 ·have he : dd l = l := by
   rw [dd, ddN_take (Nat.le_refl _) (fun j h1 h3 => by omega), List.take_length]
  rw [he]
  repeat' (first|refine Sp.h ?_|refine Lk.r rfl ?_|refine Rf.mk rfl ?_|(apply Bd.t;(focus first|assumption|omega|rfl))|(apply TkA.r;(focus repeat constructor))|(apply Nm.r;focus repeat constructor)|fail)
  exact ⟨_, _, .one (.same (.nil (by (repeat first|exact .nil|refine .cons (by repeat constructor) ?_)))), _, rfl, rfl⟩
 repeat' (first|refine Sp.h ?_|refine Lk.r rfl ?_|refine Rf.mk rfl ?_|(apply Bd.f;(focus first|assumption|omega|exact Bool.false_ne_true))|(apply TkA.r;(focus repeat constructor))|fail)
 refine CA.loop (fun k : Nat => ⟨[(0, .ow w), (3, it k)], [arrR w 3 1 l i1]⟩) (fun k => 1 ≤ k ∧ k ≤ l.length ∧ ∀ j, 0 < j → j < k → l[j]? ≠ l[j - 1]?) (fun k => l.length - k) 1 ⟨by repeat first|trivial|refine ⟨rfl,?_⟩,by repeat first|exact .nil|refine .cons (by repeat constructor) ?_⟩ ⟨Nat.le_refl _, by omega, fun j h1 h3 => by omega⟩ ?_
 rintro k ⟨h1, h3, h4⟩
 by_cases hk : k < l.length
 rotate_left
 ·have hke : k = l.length := by omega
  have he : dd l = l := by rw [dd, ← hke, ddN_take h3 h4, hke, List.take_length]
  rw [he]
  repeat' (first|refine Sp.h ?_|refine Lk.r rfl ?_|refine Rf.mk rfl ?_|(apply Bd.f;(focus first|assumption|omega|exact Bool.false_ne_true))|(apply TkA.r;(focus repeat constructor))|(apply Nm.r;focus repeat constructor)|fail)
  exact ⟨_, _, .one (.same (.nil (by (repeat first|exact .nil|refine .cons (by repeat constructor) ?_)))), _, rfl, rfl⟩
 obtain ⟨x, hx⟩ := get_of hk
 obtain ⟨y, hy⟩ := get_of (l := l) (i := k - 1) (by omega)
 by_cases hxy : x = y
 rotate_left
 ·repeat' (first|refine Sp.h ?_|refine Lk.r rfl ?_|refine Rf.mk rfl ?_|(apply Bd.t;(focus first|assumption|omega|rfl))|(apply Bd.f;(focus first|assumption|omega|exact Bool.false_ne_true))|refine OpK.r rfl ?_|(apply TkA.r;(focus repeat constructor))|(apply Ix.q;(focus exact rfl);(focus assumption))|(apply Ix.r;(focus assumption);(focus omega))|(apply At.r;(focus assumption))|(apply CA.draw;(focus rfl);(focus kernel_rfl);(focus kernel_rfl);(focus repeat' constructor);(focus rfl))|(apply Ov.n;(focus first|omega|(simp <;> omega)))|fail)
  refine PA.lp (k + 1) ⟨by repeat first|trivial|refine ⟨rfl,?_⟩,by repeat first|exact .nil|refine .cons (by repeat constructor) ?_⟩ ⟨⟨by omega, hk, fun j g1 g2 => ?_⟩, by omega⟩
  by_cases hj : j = k
  ·subst hj;rw [hx, hy];exact fun e => hxy (by cases e;rfl)
  ·exact h4 j g1 (by omega)
 repeat' (first|refine Sp.h ?_|refine Lk.r rfl ?_|refine Rf.mk rfl ?_|(apply Bd.t;(focus first|assumption|omega|rfl))|refine OpK.r rfl ?_|(apply TkA.r;(focus repeat constructor))|(apply Ix.q;(focus exact rfl);(focus assumption))|(apply Ix.r;(focus assumption);(focus omega))|(apply At.r;(focus assumption))|(apply Jx.r;(focus exact rfl);(focus first|omega|(simp;done)|(simp;omega)))|(apply CA.draw;(focus rfl);(focus kernel_rfl);(focus kernel_rfl);(focus repeat' constructor);(focus rfl))|(apply Ov.n;(focus first|omega|(simp <;> omega)))|fail)
 refine CA.loop (fun q : Nat × Nat × List Int => ⟨[(0, .ow w), (3, it q.1), (4, .os w 1 k (l.length - k)), (5, it q.2.1)], [arrR w 3 1 q.2.2 i1]⟩)
  (fun q => 1 ≤ q.2.1 ∧ q.1 < k + q.2.1 ∧ k + q.2.1 ≤ l.length ∧ q.2.2.length = l.length ∧ q.2.2.take q.1 = ddN l (k + q.2.1) ∧ q.2.2.drop (k + q.2.1 - 1) = l.drop (k + q.2.1 - 1)) (fun q => l.length - q.2.1) (k, 1, l) ⟨by repeat first|trivial|refine ⟨rfl,?_⟩,by repeat first|exact .nil|refine .cons (by repeat constructor) ?_⟩
  ⟨Nat.le_refl _, by simp only;omega, by simp only;omega, rfl, by simp only;rw [ddN_eq (by omega) (by rw [hx, hy, hxy]), ddN_take h3 h4], rfl⟩ ?_
 rintro ⟨i, m, cur⟩ ⟨g1, g2, g3, g4, g5, g6⟩
 simp only at g1 g2 g3 g4 g5 g6
 simp only
 by_cases hm : k + m < l.length
 ·obtain ⟨a, ha⟩ := get_of hm
  obtain ⟨b, hb⟩ := get_of (l := l) (i := k + m - 1) (by omega)
  have hca : cur[k + m]? = some a := by
   have := congrArg (fun z => z[1]?) g6
   simp only [List.getElem?_drop] at this
   rw [show k + m - 1 + 1 = k + m by omega] at this
   rw [this, ha]
  have hcb : cur[k + (m - 1)]? = some b := by
   have := congrArg (fun z => z[0]?) g6
   simp only [List.getElem?_drop, Nat.add_zero] at this
   rw [show k + (m - 1) = k + m - 1 by omega, this, hb]
  have h7 : cur.drop (k + m) = l.drop (k + m) := by
   have := congrArg (List.drop 1) g6
   rw [List.drop_drop, List.drop_drop] at this
   rwa [show k + m - 1 + 1 = k + m by omega] at this
  obtain ⟨z, hz⟩ := get_of (l := cur) (i := i) (by omega)
  have hm1 : ((m : Int) - 1) = ((m - 1 : Nat) : Int) := by omega
  by_cases hab : a = b
  ·repeat' (first|refine Sp.h ?_|refine Lk.r rfl ?_|refine Rf.mk rfl ?_|(apply Bd.t;(focus first|assumption|omega|rfl))|refine OpK.r rfl ?_|(apply TkA.r;(focus repeat constructor))|(apply At.r;(focus assumption))|refine Rf.mk ⟨rfl, rfl⟩ ?_|(apply CA.draw;(focus rfl);(focus kernel_rfl);(focus kernel_rfl);(focus repeat' constructor);(focus rfl))|(apply Sx.r;(focus exact rfl);(focus first|omega|(simp;omega)))|(apply Ov.n;(focus first|omega|(simp <;> omega)))|(apply Sx.r;(focus assumption);(focus first|omega|(simp;omega)))|fail)
   exact PA.lp (i, m + 1, cur) ⟨by repeat first|trivial|refine ⟨rfl,?_⟩,by repeat first|exact .nil|refine .cons (by repeat constructor) ?_⟩ ⟨⟨by simp only;omega, by simp only;omega, by simp only;omega, g4, by simp only;rw [← Nat.add_assoc, ddN_eq (by omega) (by rw [ha, hb, hab])];exact g5, by simp only;rw [show k + (m + 1) - 1 = k + m by omega];exact h7⟩, by simp only;omega⟩
  ·repeat' (first|refine Sp.h ?_|refine Lk.r rfl ?_|refine Rf.mk rfl ?_|(apply Bd.t;(focus first|assumption|omega|rfl))|(apply Bd.f;(focus first|assumption|omega|exact Bool.false_ne_true))|refine OpK.r rfl ?_|(apply TkA.r;(focus repeat constructor))|(apply Ix.q;(focus exact rfl);(focus assumption))|(apply At.r;(focus assumption))|(apply SetAk.r;(focus (repeat first|assumption|constructor)))|refine Rf.mk ⟨rfl, rfl⟩ ?_|refine Up.r rfl ?_|(apply CA.draw;(focus rfl);(focus kernel_rfl);(focus kernel_rfl);(focus repeat' constructor);(focus rfl))|(apply Sx.r;(focus exact rfl);(focus first|omega|(simp;omega)))|(apply Ov.n;(focus first|omega|(simp <;> omega)))|(apply Sx.r;(focus assumption);(focus first|omega|(simp;omega)))|fail)
   have h8 : (cur.set i a).take (i + 1) = cur.take i ++ [a] := by
    rw [List.take_add_one, List.getElem?_set, if_pos rfl, if_pos (by omega), List.take_set_of_le (Nat.le_refl _)];rfl
   refine PA.lp (i + 1, m + 1, cur.set i a) ⟨by repeat first|trivial|refine ⟨rfl,?_⟩,by repeat first|exact .nil|refine .cons (by repeat constructor) ?_⟩ ⟨⟨by simp only;omega, by simp only;omega, by simp only;omega, by simp only;rw [List.length_set];exact g4, ?_, ?_⟩, by simp only;omega⟩
   ·simp only
    rw [h8, g5, ← Nat.add_assoc, ddN_ne ha (fun _ => by rw [ha, hb];exact fun e => hab (by cases e;rfl))]
   ·simp only
    rw [show k + (m + 1) - 1 = k + m by omega, List.drop_set_of_lt (by omega)];exact h7
 ·have hme : k + m = l.length := by omega
  rw [hme] at g5
  (repeat' (first|(show CA _ _ (Code.region 14 _ _) _ _;apply Stopped.out)|refine Sp.h ?_|refine Lk.r rfl ?_|refine Rf.mk rfl ?_|(apply Bd.f;(focus first|assumption|omega|exact Bool.false_ne_true))|fail));any_goals apply Stopped.mk
  apply CA.retype (m := cur.map vI) (g := valR)
  focus (repeat constructor)
  focus exact vI_map cur
  apply CA.toX 0
  focus rfl
  focus (repeat constructor)
  intro hcap
  rw [List.length_map] at hcap
  (repeat' (first|(show CA _ _ Code.ret _ _;apply Stopped.out)|refine Sp.h ?_|refine Lk.r rfl ?_|refine Rf.mk rfl ?_|(apply Om.mk;(focus first|omega|(simp <;> omega)))|refine Rf.mk ⟨rfl, rfl⟩ ?_|refine Rf.mk ⟨rfl, rfl, rfl⟩ ?_|(apply Jx.r;(focus exact rfl);(focus first|omega|(simp;done)|(simp;omega)))|(apply TkX.r;(focus repeat constructor))|(apply ExX.short;(focus rfl);(focus first|omega|(simp <;> omega));(focus first|omega|(simp <;> omega)))|fail));any_goals apply Stopped.mk
  apply CA.retype (m := dd l) (g := i1)
  focus (repeat constructor)
  focus (rw [dd, ← g5, ← vI_map, List.map_take];simp [List.take_take])
  repeat' (first|refine Sp.h ?_|refine Lk.r rfl ?_|(apply Nm.r;focus repeat constructor)|fail)
  exact ⟨_, _, .one (.same (.nil (by (repeat first|exact .nil|refine .cons (by repeat constructor) ?_)))), _, rfl, rfl⟩
end Go.Proofs.YtmllihbhphnolaaGreat
namespace Go.Proofs.YtmllihbhphnolaaGreat
open Go Go.CF
set_option maxRecDepth 20000
def iniT (t : TblS) : Int := min (max 0 t.lo) t.hi
noncomputable def srtD (l : List Int) : List Int := dd (srtI l)
theorem srtI_len (l : List Int) : (srtI l).length = l.length := by simp [srtI]
theorem srtD_len (l : List Int) : (srtD l).length ≤ l.length := by
 have := ddN_len (l := srtI l) (srtI l).length
 rw [srtI_len] at this
 rw [srtD, dd, srtI_len];exact this
def SI (l s : List Int) : Prop := s.Pairwise (· < ·) ∧ ∀ x, x ∈ s ↔ x ∈ l
theorem SI.uniq {l s t : List Int} (g1 : SI l s) (g2 : SI l t) : s = t := by
 have key : ∀ s t : List Int, s.Pairwise (· < ·) → t.Pairwise (· < ·) → (∀ x, x ∈ s ↔ x ∈ t) → s = t := by
  intro s
  induction s with
  | nil =>
   intro t _ _ h
   cases t with
   | nil => rfl
   | cons b t => exact absurd ((h b).2 (by simp)) (by simp)
  | cons a s ih =>
   intro t hs ht h
   cases t with
   | nil => exact absurd ((h a).1 (by simp)) (by simp)
   | cons b t =>
    obtain ⟨h1, h2⟩ := List.pairwise_cons.1 hs
    obtain ⟨h3, h4⟩ := List.pairwise_cons.1 ht
    have hab : a = b := by
     rcases List.mem_cons.1 ((h a).1 (by simp)) with e|e
     ·exact e
     ·rcases List.mem_cons.1 ((h b).2 (by simp)) with e2|e2
      ·exact e2.symm
      ·have := h1 b e2;have := h3 a e;omega
    subst hab
    rw [ih t h2 h4 fun x => ?_]
    have := h x
    simp only [List.mem_cons] at this
    constructor
    ·intro hx
     rcases this.1 (.inr hx) with e|e
     ·subst e;have := h1 _ hx;omega
     ·exact e
    ·intro hx
     rcases this.2 (.inr hx) with e|e
     ·subst e;have := h3 _ hx;omega
     ·exact e
 exact key _ _ g1.1 g2.1 fun x => (g1.2 x).trans (g2.2 x).symm
theorem srtI_sorted (l : List Int) : (srtI l).Pairwise (· ≤ ·) := by
 have := List.pairwise_mergeSort (le := fun x y : Int => decide (x ≤ y)) (fun a b c h1 h2 => by simp at *;omega) (fun a b => by simp;omega) l
 exact this.imp fun h => by simpa using h
theorem srtD_si (l : List Int) : SI l (srtD l) := by
 have hs := srtI_sorted l
 have hm : ∀ x, x ∈ srtI l ↔ x ∈ l := fun x => List.mem_mergeSort
 suffices key : ∀ i, i ≤ (srtI l).length → (ddN (srtI l) i).Pairwise (· < ·) ∧ (∀ x, x ∈ ddN (srtI l) i ↔ x ∈ (srtI l).take i) by
  obtain ⟨h1, h2⟩ := key _ (Nat.le_refl _)
  rw [List.take_length] at h2
  exact ⟨h1, fun x => (h2 x).trans (hm x)⟩
 intro i
 induction i with
 | zero => intro _;exact ⟨List.Pairwise.nil, fun x => by simp [ddN]⟩
 | succ i ih =>
  intro hi
  obtain ⟨h1, h2⟩ := ih (by omega)
  obtain ⟨x, hx⟩ := get_of (l := srtI l) (i := i) (by omega)
  have ht : (srtI l).take (i + 1) = (srtI l).take i ++ [x] := by rw [List.take_add_one, hx];rfl
  by_cases hc : 0 < i ∧ (srtI l)[i]? = (srtI l)[i - 1]?
  ·rw [ddN_eq hc.1 hc.2, ht]
   refine ⟨h1, fun y => (h2 y).trans ?_⟩
   have hxm : x ∈ (srtI l).take i := List.mem_of_getElem? (i := i - 1) (by rw [List.getElem?_take, if_pos (by omega), ← hc.2, hx])
   simp only [List.mem_append, List.mem_singleton]
   exact ⟨.inl, fun h => h.elim id fun e => e ▸ hxm⟩
  ·rw [ddN_ne hx (fun h0 e => hc ⟨h0, e⟩), ht]
   refine ⟨List.pairwise_append.2 ⟨h1, by simp, fun a ha b hb => ?_⟩, fun y => by simp [h2]⟩
   have hb : b = x := by simpa using hb
   subst hb
   have ha := (h2 a).1 ha
   obtain ⟨j, hj⟩ := List.getElem?_of_mem ha
   have hjl : j < i := by have := (List.getElem?_eq_some_iff.1 hj).1;simp at this;omega
   rw [List.getElem?_take, if_pos hjl] at hj
   have hle : ∀ (p q : Nat) (u v : Int), p ≤ q → (srtI l)[p]? = some u → (srtI l)[q]? = some v → u ≤ v := fun p q u v hpq hu hv => by
    by_cases he : p = q
    ·subst he;rw [hu] at hv;cases hv;omega
    ·obtain ⟨p1, rfl⟩ := List.getElem?_eq_some_iff.1 hu
     obtain ⟨q1, rfl⟩ := List.getElem?_eq_some_iff.1 hv
     exact List.pairwise_iff_getElem.1 hs p q p1 q1 (by omega)
   obtain ⟨z, hz⟩ := get_of (l := srtI l) (i := i - 1) (by omega)
   have h3 := hle j (i - 1) a z (by omega) hj hz
   have h4 := hle (i - 1) i z b (by omega) hz hx
   have h5 : b ≠ z := fun e => hc ⟨by omega, by rw [hx, hz, e]⟩
   omega
noncomputable def valK (t : TblS) (g : MgS) : List Int := if t.kind = 2 ∨ t.kind = 3 then setV t g else if g.marks.length = 0 then [iniT t] else srtD (g.marks.map MkS.val)
set_option maxHeartbeats 1000000 in
theorem valuesR_p (t : TblS) (g : MgS) (hk : ¬ (t.kind = 2 ∨ t.kind = 3)) (hl : g.marks.length ≤ 100000) : CallP Tryz.prog 186 [.agg (tblC t), .agg (mgC g)] (ints (valK t g)) := by
 have h1 : t.kind ≠ 2 := fun h => hk (.inl h)
 have h2 : t.kind ≠ 3 := fun h => hk (.inr h)
 by_cases h0 : g.marks.length = 0
 ·have hv : valK t g = [iniT t] := by rw [valK, if_neg hk, if_pos h0]
  rw [hv]
  refine CallA.fz (T := 3) (by simp) ?_
  refine CallA.of pg ord186 Tryz.func186 rfl Tryz.ntmps186 Tryz.results186 rfl fun h0 G0 O0 => ?_
  (repeat' (first|(show CA _ _ Code.ret _ _;apply Stopped.out)|refine Sp.h ?_|refine Lk.r rfl ?_|refine Rf.mk rfl ?_|(apply Bd.t;(focus first|assumption|omega|rfl))|(apply Bd.f;(focus first|assumption|omega|exact Bool.false_ne_true))|(refine Im.mk ?_;intro _)|(refine All.mk ?_;intro _)|(apply TkB.r;(focus repeat constructor))|(apply Fk.r;(focus (repeat (first|exact FillA.nil|(apply FillA.agg;(focus rfl);(focus rfl);(focus (repeat (first|exact SetAs.z|(apply SetAs.c;(focus (repeat first|assumption|constructor)))))))|(apply FillA.one;(focus rfl);(focus infer_instance);(focus (repeat first|assumption|constructor)))))))|refine Rf.mk ⟨rfl, rfl, rfl⟩ ?_|fail));any_goals apply Stopped.mk
  apply CA.retype (m := [iniT t]) (g := i1)
  focus (repeat constructor)
  focus rfl
  repeat' (first|refine Sp.h ?_|refine Lk.r rfl ?_|(apply Nm.r;focus repeat constructor)|fail)
  exact ⟨_, _, .one (.same (.nil (by (repeat first|exact .nil|refine .cons (by repeat constructor) ?_)))), _, rfl, rfl⟩
 ·have hv : valK t g = srtD (g.marks.map MkS.val) := by rw [valK, if_neg hk, if_neg h0]
  have hln := srtD_len (g.marks.map MkS.val)
  rw [List.length_map] at hln
  rw [hv]
  refine CallA.fz (T := 3) (by omega) ?_
  refine CallA.of pg ord186 Tryz.func186 rfl Tryz.ntmps186 Tryz.results186 rfl fun h0 G0 O0 => ?_
  repeat' (first|refine Sp.h ?_|refine Lk.r rfl ?_|refine Rf.mk rfl ?_|(apply Bd.f;(focus first|assumption|omega|exact Bool.false_ne_true))|(refine Im.mk ?_;intro _)|(refine All.mk ?_;intro _)|(apply TkB.r;(focus repeat constructor))|fail)
  refine CA.nilOwn 5 3 1 i1 rfl fun v => ?_
  refine CA.loop (fun x : Nat × Value => ⟨[(5, .ow x.2), (54, mks g.marks), (55, it (g.marks.length : Nat)), (56, it x.1)], [arrR x.2 3 1 ((g.marks.take x.1).map MkS.val) i1]⟩) (fun x => x.1 ≤ g.marks.length) (fun x => g.marks.length - x.1) (0, v) ⟨by repeat first|trivial|refine ⟨rfl,?_⟩,by repeat first|exact .nil|refine .cons (by repeat constructor) ?_⟩ (Nat.zero_le _) ?_
  rintro ⟨i, w⟩ hi
  simp only at hi
  simp only
  by_cases hin : i < g.marks.length
  ·obtain ⟨x, hx⟩ := get_of hin
   have hsu : (g.marks.take (i + 1)).map MkS.val = (g.marks.take i).map MkS.val ++ [x.val] := by rw [List.take_add_one, hx];simp
   repeat' (first|refine Sp.h ?_|refine Lk.r rfl ?_|refine Rf.mk rfl ?_|(apply Bd.t;(focus first|assumption|omega|rfl))|(apply Om.mk;(focus first|omega|(simp <;> omega)))|(refine All.mk ?_;intro _)|(apply TkA.r;(focus repeat constructor))|(apply TkB.r;(focus repeat constructor))|(apply Ix.q;(focus exact rfl);(focus assumption))|refine Ce.r ?_|refine Ch.l ⟨rfl, rfl⟩ ?_|(apply SetAsk.r;(focus (repeat (first|exact SetAs.z|(apply SetAs.c;(focus (repeat first|assumption|constructor)))))))|(apply Fk.r;(focus (repeat (first|exact FillA.nil|(apply FillA.agg;(focus rfl);(focus rfl);(focus (repeat (first|exact SetAs.z|(apply SetAs.c;(focus (repeat first|assumption|constructor)))))))|(apply FillA.one;(focus rfl);(focus infer_instance);(focus (repeat first|assumption|constructor)))))))|(apply Nm.r;focus repeat constructor)|refine Rf.mk ⟨rfl, rfl⟩ ?_|refine Rf.mk ⟨rfl, rfl, rfl⟩ ?_|(apply Mp.lit;(focus repeat (first|exact MpL.nil|(apply MpL.cons;(focus rfl))|(apply MpL.inv;(focus repeat constructor);(focus infer_instance)))))|(apply Ov.n;(focus first|omega|(simp <;> omega)))|fail)
   rw [← hsu]
   exact PA.lp (i + 1, _) ⟨by repeat first|trivial|refine ⟨rfl,?_⟩,by repeat first|exact .nil|refine .cons (by repeat constructor) ?_⟩ ⟨hin, by simp only;omega⟩
  ·have hie : i = g.marks.length := by omega
   subst hie
   rw [List.take_length]
   have hso := sortInt_a w 3 (g.marks.map MkS.val) (by simp;omega)
   have hco := compactI_a w (srtI (g.marks.map MkS.val)) (by rw [srtI_len];simp;omega)
   repeat' (first|refine Sp.h ?_|refine Lk.r rfl ?_|refine Rf.mk rfl ?_|(apply Bd.f;(focus first|assumption|omega|exact Bool.false_ne_true))|fail)
   (apply Cl.use (hso);(focus repeat' (first|exact Lend.nil|apply Lend.keep|fail));(focus (repeat (first|exact Takes.nil|(apply Takes.cons;(focus repeat constructor)))));(focus rfl))
   rintro _ _ ⟨rfl, rfl⟩
   repeat' (first|refine Sp.h ?_|refine Lk.r rfl ?_|refine Rf.mk rfl ?_|fail)
   (apply Cl.use (hco);(focus repeat' (first|exact Lend.nil|apply Lend.keep|fail));(focus (repeat (first|exact Takes.nil|(apply Takes.cons;(focus repeat constructor)))));(focus rfl))
   rintro _ _ ⟨w2, rfl, rfl⟩
   repeat' (first|refine Sp.h ?_|refine Lk.r rfl ?_|(apply Nm.r;focus repeat constructor)|fail)
   exact ⟨_, _, .one (.same (.nil (by (repeat first|exact .nil|refine .cons (by repeat constructor) ?_)))), _, rfl, rfl⟩
theorem values_p (t : TblS) (g : MgS) (hl : g.marks.length ≤ 100000) : CallP Tryz.prog 186 [.agg (tblC t), .agg (mgC g)] (ints (valK t g)) := by
 by_cases h : t.kind = 2 ∨ t.kind = 3
 ·rw [valK, if_pos h];exact valuesS_p t g h
 ·exact valuesR_p t g h hl
end Go.Proofs.YtmllihbhphnolaaGreat
namespace Go.Proofs.YtmllihbhphnolaaGreat
open Go Go.CF
set_option maxRecDepth 20000
theorem si_keep {l s : List Int} {x : Int} (h : SI l s) (hx : x ∈ s) : SI (l ++ [x]) s :=
 ⟨h.1, fun y => by
  rw [List.mem_append, List.mem_singleton, h.2]
  exact ⟨.inl, fun e => e.elim id fun e => e ▸ (h.2 x).1 hx⟩⟩
end Go.Proofs.YtmllihbhphnolaaGreat
namespace Go.Proofs.YtmllihbhphnolaaGreat
open Go Go.CF
set_option maxRecDepth 20000
noncomputable def valsF (ts : List TblS) (l : List MgS) : List (List Int) := (ts.zip l).map fun p => valK p.1 p.2
theorem valsF_succ {ts : List TblS} {l : List MgS} {i : Nat} {t : TblS} {g : MgS} (ht : ts[i]? = some t) (hg : l[i]? = some g) : valsF (ts.take (i + 1)) (l.take (i + 1)) = valsF (ts.take i) (l.take i) ++ [valK t g] := by
 have h1 := (List.getElem?_eq_some_iff.1 ht).1
 have h2 := (List.getElem?_eq_some_iff.1 hg).1
 rw [List.take_add_one, List.take_add_one, ht, hg, valsF, Option.toList_some, Option.toList_some, List.zip_append (by simp;omega), List.map_append]
 rfl
theorem valsF_len (ts : List TblS) (l : List MgS) : (valsF ts l).length = min ts.length l.length := by simp [valsF]
theorem valL_len {ts : List TblS} {l : List MgS} (hv : ValL ts l) {i : Nat} {t : TblS} {g : MgS} (ht : ts[i]? = some t) (hg : l[i]? = some g) : g.marks.length ≤ 1024 := (hv.2 i t g ht hg).1.2.2.2
theorem valuesM_p (m : ModS) (l : List MgS) (hm : LayOK m.sorts m.tables) (hv : ValL (mrgF m) l) (hl : (mrgF m).length ≤ 1000) :
  CallP Tryz.prog 130 [mdl m, mgs l] (.tup [clks (valsF (mrgF m) l), it 0]) := by
 refine CallA.fzt (T := 22) (by rw [valsF_len];omega) ?_
 have hva := validM_p m l hm
 have hce := cells_p m hm
 have hlen := hv.1
 refine CallA.of pg ord130 Tryz.func130 rfl Tryz.ntmps130 Tryz.results130 rfl fun h0 G0 O0 => ?_
 repeat' (first|refine Sp.h ?_|refine Lk.r rfl ?_|refine Rf.mk rfl ?_|(apply Bd.t;(focus first|assumption|omega|rfl))|(refine Im.mk ?_;intro _)|(refine All.mk ?_;intro _)|(apply TkB.r;(focus repeat constructor))|refine Ch.l ⟨rfl, rfl⟩ ?_|(apply Cl.p (hva);(focus repeat' (first|exact Lend.nil|apply Lend.keep|fail)))|(apply Cl.p (hce);(focus repeat' (first|exact Lend.nil|apply Lend.keep|fail))))
 refine CA.nilOwn 6 22 1 clkC rfl fun v => ?_
 refine CA.loop (fun x : Nat × Value => ⟨[(1, mgs l), (6, .ow x.2), (14, tbls (mrgF m)), (15, it ((mrgF m).length : Nat)), (16, it x.1)], [arrR x.2 22 1 (valsF ((mrgF m).take x.1) (l.take x.1)) clkC]⟩) (fun x => x.1 ≤ (mrgF m).length) (fun x => (mrgF m).length - x.1) (0, v) ⟨by repeat first|trivial|refine ⟨rfl,?_⟩,by repeat first|exact .nil|refine .cons (by repeat constructor) ?_⟩ (Nat.zero_le _) ?_
 rintro ⟨i, w⟩ hi
 simp only at hi
 simp only
 by_cases hin : i < (mrgF m).length
 ·obtain ⟨t, ht⟩ := get_of hin
  obtain ⟨g, hg⟩ := get_of (l := l) (i := i) (by omega)
  have hsu := valsF_succ ht hg
  have hva := values_p t g (by have := valL_len hv ht hg;omega)
  have hln : (valsF ((mrgF m).take i) (l.take i)).length ≤ 1000 := by rw [valsF_len];simp;omega
  repeat' (first|refine Sp.h ?_|refine Lk.r rfl ?_|refine Rf.mk rfl ?_|(apply Bd.t;(focus first|assumption|omega|rfl))|refine OpK.r rfl ?_|(apply Om.mk;(focus first|omega|(simp <;> omega)))|(refine All.mk ?_;intro _)|(apply TkA.r;(focus repeat constructor))|(apply TkB.r;(focus repeat constructor))|(apply Ix.q;(focus exact rfl);(focus assumption))|refine Ce.r ?_|refine Ch.l ⟨rfl, rfl⟩ ?_|(apply SetAsk.r;(focus (repeat (first|exact SetAs.z|(apply SetAs.c;(focus (repeat first|assumption|constructor)))))))|(apply Fk.r;(focus (repeat (first|exact FillA.nil|(apply FillA.agg;(focus rfl);(focus rfl);(focus (repeat (first|exact SetAs.z|(apply SetAs.c;(focus (repeat first|assumption|constructor)))))))|(apply FillA.one;(focus rfl);(focus infer_instance);(focus (repeat first|assumption|constructor)))))))|(apply Nm.r;focus repeat constructor)|refine Rf.mk ⟨rfl, rfl⟩ ?_|refine Rf.mk ⟨rfl, rfl, rfl⟩ ?_|(apply Mp.lit;(focus repeat (first|exact MpL.nil|(apply MpL.cons;(focus rfl))|(apply MpL.inv;(focus repeat constructor);(focus infer_instance)))))|(apply CA.draw;(focus rfl);(focus kernel_rfl);(focus kernel_rfl);(focus repeat' constructor);(focus rfl))|(apply Ov.n;(focus first|omega|(simp <;> omega)))|(apply Cl.p (hva);(focus repeat' (first|exact Lend.nil|apply Lend.keep|fail))))
  rw [← hsu]
  exact PA.lp (i + 1, _) ⟨by repeat first|trivial|refine ⟨rfl,?_⟩,by repeat first|exact .nil|refine .cons (by repeat constructor) ?_⟩ ⟨hin, by simp only;omega⟩
 ·have hie : i = (mrgF m).length := by omega
  subst hie
  rw [List.take_length, List.take_of_length_le (l := l) (by omega)]
  repeat' (first|refine Sp.h ?_|refine Lk.r rfl ?_|refine Rf.mk rfl ?_|(apply Bd.f;(focus first|assumption|omega|exact Bool.false_ne_true))|(apply Nm.r;focus repeat constructor)|fail)
  exact ⟨_, _, .tup (.same (.same (.nil (by (repeat first|exact .nil|refine .cons (by repeat constructor) ?_))))), _, rfl, rfl⟩
end Go.Proofs.YtmllihbhphnolaaGreat
namespace Go.Proofs.YtmllihbhphnolaaGreat
open Go Go.CF
set_option maxRecDepth 20000
noncomputable def valuesQ (m : ModS) (l : List MgS) : Int × List (List Int) := @ite _ (ValL (mrgF m) l) (Classical.propDecidable _) (0, valsF (mrgF m) l) (1, [])
theorem valuesQ_ok {m : ModS} {l : List MgS} (h : ValL (mrgF m) l) : valuesQ m l = (0, valsF (mrgF m) l) := @if_pos _ (Classical.propDecidable _) h _ _ _
theorem valuesQ_bad {m : ModS} {l : List MgS} (h : ¬ ValL (mrgF m) l) : valuesQ m l = (1, []) := @if_neg _ (Classical.propDecidable _) h _ _ _
abbrev resV (q : Int × List (List Int)) : AV := .tup [clks q.2, it q.1]
theorem valuesQ_p (m : ModS) (l : List MgS) (hm : MOK m) : CallP Tryz.prog 130 [mdl m, mgs l] (resV (valuesQ m l)) := by
 by_cases hv : ValL (mrgF m) l
 ·rw [valuesQ_ok hv];exact valuesM_p m l hm.lay hv (by have := hm.mrg;omega)
 ·have hva := validM_p m l hm.lay
  rw [valuesQ_bad hv]
  refine CallA.conv (a := .tup [.val (.slice none 0 0), it 1]) (.tup (.cons ALe.nil (.cons (ALe.refl _) .nil))) ?_
  refine CallA.of pg ord130 Tryz.func130 rfl Tryz.ntmps130 Tryz.results130 rfl fun h0 G0 O0 => ?_
  repeat' (first|refine Sp.h ?_|refine Lk.r rfl ?_|refine Rf.mk rfl ?_|(apply Bd.f;(focus first|assumption|omega|exact Bool.false_ne_true))|(refine All.mk ?_;intro _)|(apply TkB.r;(focus repeat constructor))|refine Ch.l ⟨rfl, rfl⟩ ?_|(apply Nm.r;focus repeat constructor)|(apply Cl.p (hva);(focus repeat' (first|exact Lend.nil|apply Lend.keep|fail))))
  exact Fin.p rfl rfl
end Go.Proofs.YtmllihbhphnolaaGreat
namespace Go.Proofs.YtmllihbhphnolaaGreat
open Go Go.CF
set_option maxRecDepth 20000
theorem pw_uniq {α : Type} {R : α → α → Prop} (has : ∀ a b, R a b → ¬ R b a) : ∀ s t : List α, s.Pairwise R → t.Pairwise R → (∀ x, x ∈ s ↔ x ∈ t) → s = t := by
 intro s
 induction s with
 | nil =>
  intro t _ _ h
  cases t with
  | nil => rfl
  | cons b t => exact absurd ((h b).2 (by simp)) (by simp)
 | cons a s ih =>
  intro t hs ht h
  cases t with
  | nil => exact absurd ((h a).1 (by simp)) (by simp)
  | cons b t =>
   obtain ⟨h1, h2⟩ := List.pairwise_cons.1 hs
   obtain ⟨h3, h4⟩ := List.pairwise_cons.1 ht
   have hab : a = b := by
    rcases List.mem_cons.1 ((h a).1 (by simp)) with e|e
    ·exact e
    ·rcases List.mem_cons.1 ((h b).2 (by simp)) with e2|e2
     ·exact e2.symm
     ·exact absurd (h3 a e) (has _ _ (h1 b e2))
   subst hab
   rw [ih t h2 h4 fun x => ?_]
   have := h x
   simp only [List.mem_cons] at this
   constructor
   ·intro hx
    rcases this.1 (.inr hx) with e|e
    ·subst e;exact absurd (h1 _ hx) (fun h9 => has _ _ h9 h9)
    ·exact e
   ·intro hx
    rcases this.2 (.inr hx) with e|e
    ·subst e;exact absurd (h3 _ hx) (fun h9 => has _ _ h9 h9)
    ·exact e
theorem LtK_asymm (a b : MkS) : LtK a b → ¬ LtK b a := by unfold LtK;omega
end Go.Proofs.YtmllihbhphnolaaGreat
namespace Go.Proofs.YtmllihbhphnolaaGreat
open Go Go.CF
set_option maxRecDepth 20000
noncomputable def ordE (l : List EvS) : List EvS := l.mergeSort fun a b => decide (¬ LtE b a)
theorem ordE_perm (l : List EvS) : l.Perm (ordE l) := (List.mergeSort_perm _ _).symm
theorem ordE_srt (l : List EvS) : SrtE (ordE l) := by
 have := List.pairwise_mergeSort (le := fun a b : EvS => decide (¬ LtE b a)) (fun a b c h1 h2 => by simp [LtE] at *;omega) (fun a b => by simp [LtE];omega) l
 exact this.imp fun h => by simpa using h
theorem srt_lt {l : List EvS} (hu : Uniq l) {S : List EvS} (hp : l.Perm S) (hs : SrtE S) : S.Pairwise LtE := by
 have hu1 : l.Pairwise fun a b => nm a ≠ nm b := by
  rw [List.pairwise_iff_getElem]
  intro i j hi hj hij h
  have := hu i j _ _ (List.getElem?_eq_getElem hi) (List.getElem?_eq_getElem hj) h
  omega
 have hu2 : S.Pairwise fun a b => nm a ≠ nm b := hp.pairwise hu1 (fun h => h.symm)
 refine (hs.and hu2).imp fun ⟨h1, h2⟩ => ?_
 simp only [nm, ne_eq, List.cons.injEq, and_true] at h2
 unfold LtE at *
 omega
theorem ordE_uniq {l S : List EvS} (hu : Uniq l) (hp : l.Perm S) (hs : SrtE S) : S = ordE l :=
 pw_uniq (fun _ _ => LtE.asymm) _ _ (srt_lt hu hp hs) (srt_lt hu (ordE_perm l) (ordE_srt l)) fun _ => (hp.mem_iff).symm.trans (ordE_perm l).mem_iff
end Go.Proofs.YtmllihbhphnolaaGreat
namespace Go.Proofs.YtmllihbhphnolaaGreat
open Go Go.CF
set_option maxRecDepth 20000
def updE (m : ModS) (e : EvS) (i : Nat) : Option UpS := if e.kind = 0 then updF (usF m e) i else none
noncomputable def mkE (t : TblS) (e : EvS) (u : UpS) : MkS := ⟨e.rep, e.num, e.time, if isReg t.kind then u.2.2 else 0⟩
def bK (k : Int) : Int := if k = 2 then 0 else if k = 3 then 1 else 2
def kK (k : Int) : Int := if k = 2 then 1 else if k = 3 then 0 else 2
def Asg (m : ModS) (t : TblS) (i : Nat) (P : List EvS) (x : MkS) : Prop := ∃ e ∈ P, ∃ u, updE m e i = some u ∧ u.1 = bK t.kind ∧ x = mkE t e u
def Liv (m : ModS) (t : TblS) (i : Nat) (P : List EvS) (x : MkS) : Prop := ∃ e ∈ P, ∃ u, updE m e i = some u ∧ u.1 = bK t.kind ∧ x = mkE t e u ∧ ∀ d ∈ P, ∀ w, updE m d i = some w → w.1 = kK t.kind → ¬ HasC d.past e.rep e.num
def PutP (m : ModS) (t : TblS) (i : Nat) (P : List EvS) : Prop := t.kind = 3 ∧ ∃ e ∈ P, ∃ u, updE m e i = some u ∧ u.1 = 0
def Kn4 (m : ModS) (t : TblS) (i : Nat) (P : List EvS) (l : List MkS) : Prop := (l = [] ∧ ∀ x, ¬ Asg m t i P x) ∨ ∃ x, l = [x] ∧ Asg m t i P x ∧ ∀ y, Asg m t i P y → ¬ LtK x y
structure Kn (m : ModS) (t : TblS) (i : Nat) (P : List EvS) (g : MgS) : Prop where
 put : g.put = true ↔ PutP m t i P
 drop : g.drop = false
 srt : g.marks.Pairwise LtK
 four : t.kind = 4 → Kn4 m t i P g.marks
 liv : t.kind ≠ 4 → ∀ x, x ∈ g.marks ↔ Liv m t i P x
def UniqP (P : List EvS) : Prop := ∀ a ∈ P, ∀ b ∈ P, a.rep = b.rep → a.num = b.num → a = b
theorem asg_nm {m : ModS} {t : TblS} {i : Nat} {P : List EvS} (hu : UniqP P) {x y : MkS} (hx : Asg m t i P x) (hy : Asg m t i P y) (hn : Nm x y) : x = y := by
 obtain ⟨e, he, u, h1, _, rfl⟩ := hx
 obtain ⟨d, hd, w, h3, _, rfl⟩ := hy
 have := hu e he d hd hn.1 hn.2
 subst this
 rw [h1] at h3;cases h3;rfl
theorem liv_asg {m : ModS} {t : TblS} {i : Nat} {P : List EvS} {x : MkS} (h : Liv m t i P x) : Asg m t i P x := by
 obtain ⟨e, he, u, h1, h2, h3, _⟩ := h
 exact ⟨e, he, u, h1, h2, h3⟩
theorem Kn.mem {m : ModS} {t : TblS} {i : Nat} {P : List EvS} {g : MgS} (h : Kn m t i P g) {x : MkS} (hx : x ∈ g.marks) : Asg m t i P x := by
 by_cases k4 : t.kind = 4
 ·rcases h.four k4 with ⟨h1, _⟩|⟨y, h1, h2, _⟩
  ·rw [h1] at hx;cases hx
  ·rw [h1, List.mem_singleton] at hx;subst hx;exact h2
 ·exact liv_asg ((h.liv k4 x).1 hx)
structure Nxt (P : List EvS) (e : EvS) : Prop where
 nm : ∀ p ∈ P, ¬ (p.rep = e.rep ∧ p.num = e.num)
 past : ∀ p ∈ P, ¬ HasC p.past e.rep e.num
 tm : ∀ p ∈ P, ¬ (p.time = e.time ∧ p.rep = e.rep)
 self : ¬ HasC e.past e.rep e.num
theorem asg_snoc {m : ModS} {t : TblS} {i : Nat} {P : List EvS} {e : EvS} {x : MkS} : Asg m t i (P ++ [e]) x ↔ Asg m t i P x ∨ ∃ u, updE m e i = some u ∧ u.1 = bK t.kind ∧ x = mkE t e u := by
 unfold Asg
 simp only [List.mem_append, List.mem_singleton]
 constructor
 ·rintro ⟨d, hd|rfl, h⟩
  ·exact .inl ⟨d, hd, h⟩
  ·exact .inr h
 ·rintro (⟨d, hd, h⟩|h)
  ·exact ⟨d, .inl hd, h⟩
  ·exact ⟨e, .inr rfl, h⟩
theorem putP_snoc {m : ModS} {t : TblS} {i : Nat} {P : List EvS} {e : EvS} : PutP m t i (P ++ [e]) ↔ PutP m t i P ∨ t.kind = 3 ∧ ∃ u, updE m e i = some u ∧ u.1 = 0 := by
 unfold PutP
 simp only [List.mem_append, List.mem_singleton]
 constructor
 ·rintro ⟨hk, d, hd|rfl, h⟩
  ·exact .inl ⟨hk, d, hd, h⟩
  ·exact .inr ⟨hk, h⟩
 ·rintro (⟨hk, d, hd, h⟩|⟨hk, h⟩)
  ·exact ⟨hk, d, .inl hd, h⟩
  ·exact ⟨hk, e, .inr rfl, h⟩
theorem liv_snoc {m : ModS} {t : TblS} {i : Nat} {P : List EvS} {e : EvS} (hn : Nxt P e) {x : MkS} :
  Liv m t i (P ++ [e]) x ↔ (Liv m t i P x ∧ ∀ u, updE m e i = some u → u.1 = kK t.kind → ¬ HasC e.past x.rep x.num) ∨ ∃ u, updE m e i = some u ∧ u.1 = bK t.kind ∧ x = mkE t e u := by
 constructor
 ·rintro ⟨d, hd, u, h1, h2, h3, h4⟩
  rcases List.mem_append.1 hd with hd|hd
  ·refine .inl ⟨⟨d, hd, u, h1, h2, h3, fun d' hd' => h4 d' (List.mem_append.2 (.inl hd'))⟩, fun w hw hk => ?_⟩
   rw [h3];exact h4 e (by simp) w hw hk
  ·rw [List.mem_singleton.1 hd] at h1 h3
   exact .inr ⟨u, h1, h2, h3⟩
 ·rintro (⟨⟨d, hd, u, h1, h2, h3, h4⟩, h5⟩|⟨u, h1, h2, h3⟩)
  ·refine ⟨d, List.mem_append.2 (.inl hd), u, h1, h2, h3, fun d' hd' w hw hk => ?_⟩
   rcases List.mem_append.1 hd' with hd' | hd'
   ·exact h4 d' hd' w hw hk
   ·rw [List.mem_singleton.1 hd'] at hw ⊢
    have := h5 w hw hk
    rw [h3] at this;exact this
  ·refine ⟨e, by simp, u, h1, h2, h3, fun d' hd' w hw hk => ?_⟩
   rcases List.mem_append.1 hd' with hd' | hd'
   ·exact hn.past d' hd'
   ·rw [List.mem_singleton.1 hd'];exact hn.self
theorem ins_lt {l : List MkS} {x : MkS} (hs : l.Pairwise LtK) (hn : ¬ HasNm l x) : (insK l x).Pairwise LtK ∧ ∀ y, y ∈ insK l x ↔ y ∈ l ∨ y = x := by
 have hsK : SrtK l := hs.imp fun h => LtK_asymm _ _ h
 have hm := hsK.mono x
 have hlt : ∀ y ∈ l, LtK x y ∨ LtK y x := fun y hy => by
  have h : ¬ Nm y x := fun h => hn ⟨y, hy, h⟩
  unfold Nm at h;unfold LtK;omega
 have h1 : ∀ y ∈ l.take (posK l x), LtK y x := fun y hy => by
  obtain ⟨j, hj⟩ := List.getElem?_of_mem hy
  have hjl : j < posK l x := by have := (List.getElem?_eq_some_iff.1 hj).1;simp at this;omega
  rw [List.getElem?_take, if_pos hjl] at hj
  by_cases h9 : LtK y x
  ·exact h9
  ·have : idxN (fun y => decide (¬ LtK y x)) l ≤ j := by
    rcases Nat.lt_or_ge j (idxN (fun y => decide (¬ LtK y x)) l) with hlt9|h
    ·exfalso
     have hle := idxN_le (fun y => decide (¬ LtK y x)) l
     by_cases hlen : idxN (fun y => decide (¬ LtK y x)) l < l.length
     ·obtain ⟨z, _, _, hz3⟩ := idxN_at hlen
      have := hz3 j y hlt9 hj
      simp at this;exact h9 this
     ·have hnone : ∀ z ∈ l, LtK z x := fun z hz => Classical.byContradiction fun h => hlen (idxN_lt.2 ⟨z, hz, by simpa using h⟩)
      exact h9 (hnone y (List.mem_of_getElem? hj))
    ·exact h
   unfold posK at hjl;omega
 have h2 : ∀ y ∈ l.drop (posK l x), LtK x y := fun y hy => by
  obtain ⟨j, hj⟩ := List.getElem?_of_mem hy
  rw [List.getElem?_drop] at hj
  have hym := List.mem_of_getElem? hj
  refine (hlt y hym).resolve_right fun h9 => ?_
  have hp : posK l x < l.length := by have := (List.getElem?_eq_some_iff.1 hj).1;omega
  obtain ⟨z, hz, hz2, _⟩ := idxN_at (p := fun y => decide (¬ LtK y x)) (l := l) hp
  have hz2 : ¬ LtK z x := by simpa using hz2
  exact hz2 (hm _ _ z y (Nat.le_add_right (posK l x) j) hz hj h9)
 have htd := List.take_append_drop (posK l x) l
 have hs' := hs
 rw [← htd] at hs'
 obtain ⟨s1, s2, s3⟩ := List.pairwise_append.1 hs'
 refine ⟨List.pairwise_append.2 ⟨s1, List.pairwise_cons.2 ⟨h2, s2⟩, fun a ha b hb => ?_⟩, fun y => ?_⟩
 ·rcases List.mem_cons.1 hb with rfl|hb
  ·exact h1 a ha
  ·exact s3 a ha b hb
 ·rw [insK, List.mem_append, List.mem_cons]
  constructor
  ·rintro (h|rfl|h)
   ·exact .inl (List.mem_of_mem_take h)
   ·exact .inr rfl
   ·exact .inl (List.mem_of_mem_drop h)
  ·rintro (h|rfl)
   ·rw [← htd, List.mem_append] at h
    exact h.elim .inl fun h => .inr (.inr h)
   ·exact .inr (.inl rfl)
end Go.Proofs.YtmllihbhphnolaaGreat
namespace Go.Proofs.YtmllihbhphnolaaGreat
open Go Go.CF
set_option maxRecDepth 20000
theorem cmp2_neg {a b : MkS} : cmp2 a b < 0 ↔ a.time < b.time ∨ a.time = b.time ∧ a.rep < b.rep := by
 unfold cmp2 orI cmpI
 by_cases h1 : a.time < b.time
 ·simp [h1]
 by_cases h2 : b.time < a.time
 ·simp [h1, h2];omega
 have h3 : a.time = b.time := by omega
 by_cases h4 : a.rep < b.rep
 ·simp [h3, h4]
 by_cases h5 : b.rep < a.rep
 ·simp [h3, h4, h5]
 have h6 : a.rep = b.rep := by omega
 simp [h3, h6]
def Kd (t : TblS) : Prop := t.kind = 2 ∨ t.kind = 3 ∨ t.kind = 4 ∨ t.kind = 5
theorem cell_step {m : ModS} {t : TblS} {i : Nat} {P : List EvS} {g : MgS} {e : EvS} (hk : Kd t) (h : Kn m t i P g) (hl : g.marks.length < 1024) (hn : Nxt P e) :
  ∃ g', cellF e t (updE m e i) g = (0, g') ∧ Kn m t i (P ++ [e]) g' ∧ g'.marks.length ≤ g.marks.length + 1 := by
 cases hu : updE m e i with
 | none =>
  refine ⟨g, rfl, ⟨?_, h.drop, h.srt, fun k4 => ?_, fun k4 x => ?_⟩, by omega⟩
  ·rw [putP_snoc, hu];simp [h.put]
  ·have he : ∀ x, Asg m t i (P ++ [e]) x ↔ Asg m t i P x := fun x => by rw [asg_snoc, hu];simp
   rcases h.four k4 with ⟨h1, h2⟩|⟨x, h1, h2, h3⟩
   ·exact .inl ⟨h1, fun x hx => h2 x ((he x).1 hx)⟩
   ·exact .inr ⟨x, h1, (he x).2 h2, fun y hy => h3 y ((he y).1 hy)⟩
  ·rw [liv_snoc hn, hu];simp [h.liv k4]
 | some u =>
  have hno : ¬ HasNm g.marks (mkE t e u) := fun ⟨x, hx, hxn⟩ => by
   obtain ⟨p, hp, w, _, _, rfl⟩ := h.mem hx
   exact hn.nm p hp hxn
  have hadd : addF g.marks (mkE t e u) = (0, insK g.marks (mkE t e u)) := by rw [addF, if_neg hno, if_neg (by omega)]
  have hil : ∀ (l : List MkS) x, (insK l x).length = l.length + 1 := fun l x => by
   have := posK_le l x
   simp [insK];omega
  obtain ⟨i1, i2⟩ := ins_lt h.srt hno
  have hfl : ∀ c, (fgK c g.marks).length ≤ g.marks.length := fun c => List.length_filter_le _ _
  have hfm : ∀ c x, x ∈ fgK c g.marks ↔ x ∈ g.marks ∧ ¬ HasC c x.rep x.num := fun c x => by simp [fgK, List.mem_filter]
  have hput : t.kind ≠ 3 → g.put = false := fun h3 => by
   have := h.put
   cases hp : g.put
   ·rfl
   ·exact absurd (this.1 hp).1 h3
  have hmk : mkE t e u = ⟨e.rep, e.num, e.time, if isReg t.kind then u.2.2 else 0⟩ := rfl
  have hlv : ∀ x, Liv m t i (P ++ [e]) x ↔ (Liv m t i P x ∧ (u.1 = kK t.kind → ¬ HasC e.past x.rep x.num)) ∨ (u.1 = bK t.kind ∧ x = mkE t e u) := fun x => by
   rw [liv_snoc hn, hu];simp
  have hpt : PutP m t i (P ++ [e]) ↔ PutP m t i P ∨ t.kind = 3 ∧ u.1 = 0 := by rw [putP_snoc, hu];simp
  have hsame : cellF e t (some u) g = (0, g) → (t.kind ≠ 4 → u.1 ≠ bK t.kind ∧ u.1 ≠ kK t.kind) → (t.kind = 4 → u.1 ≠ 2) → (t.kind = 3 → u.1 ≠ 0) → ∃ g', cellF e t (some u) g = (0, g') ∧ Kn m t i (P ++ [e]) g' ∧ g'.marks.length ≤ g.marks.length + 1 := fun h1 h2 h3 h4 => by
   refine ⟨g, h1, ⟨?_, h.drop, h.srt, fun k4 => ?_, fun k4 x => ?_⟩, by omega⟩
   ·rw [hpt, h.put];exact ⟨.inl, fun h => h.elim id fun h => absurd h.2 (h4 h.1)⟩
   ·have hb : bK t.kind = 2 := by rw [k4];rfl
    have he : ∀ x, Asg m t i (P ++ [e]) x ↔ Asg m t i P x := fun x => by
     rw [asg_snoc, hu]
     refine ⟨fun h => h.elim id fun ⟨w, hw, hw2, _⟩ => ?_, .inl⟩
     cases hw
     exact absurd (hw2.trans hb) (h3 k4)
    rcases h.four k4 with ⟨h1, h2⟩|⟨x, h1, h2, h3⟩
    ·exact .inl ⟨h1, fun x hx => h2 x ((he x).1 hx)⟩
    ·exact .inr ⟨x, h1, (he x).2 h2, fun y hy => h3 y ((he y).1 hy)⟩
   ·rw [hlv, h.liv k4]
    exact ⟨fun h9 => .inl ⟨h9, fun h => absurd h (h2 k4).2⟩, fun h9 => h9.elim (·.1) fun h => absurd h.1 (h2 k4).1⟩
  rcases hk with k|k|k|k
  ·have nb : bK t.kind = 0 := by rw [k];rfl
   have nk : kK t.kind = 1 := by rw [k];rfl
   by_cases u0 : u.1 = 0
   ·refine ⟨⟨g.put, g.drop, insK g.marks (mkE t e u)⟩, ?_, ⟨?_, h.drop, i1, fun k4 => by omega, fun _ x => ?_⟩, by simp [hil]⟩
    ·simp only [cellF, k, u0, true_and, true_or, if_true]
     rw [← k, ← hmk, hadd]
    ·rw [hpt, h.put];exact ⟨.inl, fun h => h.elim id fun h => by omega⟩
    ·rw [hlv]
     show x ∈ insK g.marks (mkE t e u) ↔ _
     rw [i2, h.liv (by omega)]
     exact ⟨fun h9 => h9.elim (fun h9 => .inl ⟨h9, fun h => by omega⟩) fun h9 => .inr ⟨by omega, h9⟩, fun h9 => h9.elim (fun h9 => .inl h9.1) fun h9 => .inr h9.2⟩
   by_cases u1 : u.1 = 1
   ·refine ⟨⟨false, g.drop, fgK e.past g.marks⟩, ?_, ⟨?_, h.drop, h.srt.filter _, fun k4 => by omega, fun _ x => ?_⟩, by simp only;have := hfl e.past;omega⟩
    ·simp [cellF, k, u1]
    ·rw [hpt, ← h.put, hput (by omega)]
     simp only [Bool.false_eq_true, false_or, false_iff]
     omega
    ·rw [hlv]
     show x ∈ fgK e.past g.marks ↔ _
     rw [hfm, h.liv (by omega)]
     exact ⟨fun h9 => .inl ⟨h9.1, fun _ => h9.2⟩, fun h9 => h9.elim (fun h9 => ⟨h9.1, h9.2 (by omega)⟩) fun h9 => by omega⟩
   ·exact hsame (by simp [cellF, k, u0, u1]) (fun _ => ⟨by omega, by omega⟩) (fun h => by omega) (fun h => by omega)
  ·have nb : bK t.kind = 1 := by rw [k];rfl
   have nk : kK t.kind = 0 := by rw [k];rfl
   by_cases u1 : u.1 = 1
   ·refine ⟨⟨g.put, g.drop, insK g.marks (mkE t e u)⟩, ?_, ⟨?_, h.drop, i1, fun k4 => by omega, fun _ x => ?_⟩, by simp [hil]⟩
    ·simp only [cellF, k, u1, true_and, or_true, if_true]
     rw [← k, ← hmk, hadd]
    ·rw [hpt, h.put];exact ⟨.inl, fun h => h.elim id fun h => by omega⟩
    ·rw [hlv]
     show x ∈ insK g.marks (mkE t e u) ↔ _
     rw [i2, h.liv (by omega)]
     exact ⟨fun h9 => h9.elim (fun h9 => .inl ⟨h9, fun h => by omega⟩) fun h9 => .inr ⟨by omega, h9⟩, fun h9 => h9.elim (fun h9 => .inl h9.1) fun h9 => .inr h9.2⟩
   by_cases u0 : u.1 = 0
   ·refine ⟨⟨true, false, fgK e.past g.marks⟩, ?_, ⟨?_, rfl, h.srt.filter _, fun k4 => by omega, fun _ x => ?_⟩, by simp only;have := hfl e.past;omega⟩
    ·simp [cellF, k, u0]
    ·rw [hpt];simp [k, u0]
    ·rw [hlv]
     show x ∈ fgK e.past g.marks ↔ _
     rw [hfm, h.liv (by omega)]
     exact ⟨fun h9 => .inl ⟨h9.1, fun _ => h9.2⟩, fun h9 => h9.elim (fun h9 => ⟨h9.1, h9.2 (by omega)⟩) fun h9 => by omega⟩
   ·exact hsame (by simp [cellF, k, u0, u1]) (fun _ => ⟨by omega, by omega⟩) (fun h => by omega) (fun _ => u0)
  ·have nb : bK t.kind = 2 := by rw [k];rfl
   by_cases u2 : u.1 = 2
   ·have hc : ∀ q, lastF g.marks (mkE t e u) = (0, q) → cellF e t (some u) g = (0, ⟨g.put, g.drop, q⟩) := fun q hq => by
     simp only [cellF, k, u2]
     rw [← k, ← hmk, hq];simp [k]
    have hx : ∀ x, Asg m t i (P ++ [e]) x ↔ Asg m t i P x ∨ x = mkE t e u := fun x => by rw [asg_snoc, hu];simp [nb, u2]
    have hpp : g.put = true ↔ PutP m t i (P ++ [e]) := by rw [hpt, h.put];exact ⟨.inl, fun h => h.elim id fun h => by omega⟩
    rcases h.four k with ⟨h1, h2⟩|⟨x, h1, h2, h3⟩
    ·refine ⟨⟨g.put, g.drop, [mkE t e u]⟩, hc _ ?_, ⟨hpp, h.drop, by simp, fun _ => .inr ⟨_, rfl, (hx _).2 (.inr rfl), fun y hy => ?_⟩, fun h => absurd k h⟩, by simp⟩
     ·rw [h1] at hadd ⊢
      rw [lastF, hadd]
      simp [insK, posK, idxN]
     ·rcases (hx y).1 hy with hy|rfl
      ·exact absurd hy (h2 y)
      ·exact fun h => LtK_asymm _ _ h h
    ·by_cases hc2 : cmp2 x (mkE t e u) < 0
     ·have hlt : LtK x (mkE t e u) := by have := cmp2_neg.1 hc2;unfold LtK;omega
      refine ⟨⟨g.put, g.drop, [mkE t e u]⟩, hc _ (by rw [h1, lastF, if_pos hc2]), ⟨hpp, h.drop, by simp, fun _ => .inr ⟨_, rfl, (hx _).2 (.inr rfl), fun y hy h9 => ?_⟩, fun h => absurd k h⟩, by simp⟩
      rcases (hx y).1 hy with hy|rfl
      ·exact h3 y hy (hlt.trans h9)
      ·exact LtK_asymm _ _ h9 h9
     ·refine ⟨⟨g.put, g.drop, [x]⟩, hc _ (by rw [h1, lastF, if_neg hc2]), ⟨hpp, h.drop, by simp, fun _ => .inr ⟨x, rfl, (hx _).2 (.inl h2), fun y hy h9 => ?_⟩, fun h => absurd k h⟩, by simp⟩
      rcases (hx y).1 hy with hy|rfl
      ·exact h3 y hy h9
      ·obtain ⟨p, hp, w, _, _, rfl⟩ := h2
       have a1 := hn.tm p hp
       rw [cmp2_neg] at hc2
       unfold LtK at h9
       simp only [mkE] at hc2 h9
       omega
   ·exact hsame (by simp [cellF, k, u2]) (fun h => absurd k h) (fun _ => u2) (fun h => by omega)
  ·have nb : bK t.kind = 2 := by rw [k];rfl
   have nk : kK t.kind = 2 := by rw [k];rfl
   by_cases u2 : u.1 = 2
   ·have hno2 : ¬ HasNm (fgK e.past g.marks) (mkE t e u) := fun ⟨x, hx, hxn⟩ => hno ⟨x, ((hfm _ _).1 hx).1, hxn⟩
    have hfl2 := hfl e.past
    have hadd2 : addF (fgK e.past g.marks) (mkE t e u) = (0, insK (fgK e.past g.marks) (mkE t e u)) := by rw [addF, if_neg hno2, if_neg (by omega)]
    obtain ⟨j1, j2⟩ := ins_lt (l := fgK e.past g.marks) (h.srt.filter _) hno2
    refine ⟨⟨g.put, g.drop, insK (fgK e.past g.marks) (mkE t e u)⟩, ?_, ⟨?_, h.drop, j1, fun k4 => by omega, fun _ x => ?_⟩, by simp only [hil];omega⟩
    ·simp only [cellF, k, u2]
     rw [← k, ← hmk, hadd2];simp [k]
    ·rw [hpt, h.put];exact ⟨.inl, fun h => h.elim id fun h => by omega⟩
    ·rw [hlv]
     show x ∈ insK (fgK e.past g.marks) (mkE t e u) ↔ _
     rw [show x ∈ insK (fgK e.past g.marks) (mkE t e u) ↔ x ∈ fgK e.past g.marks ∨ x = mkE t e u from j2 x, hfm, h.liv (by omega)]
     exact ⟨fun h9 => h9.elim (fun h9 => .inl ⟨h9.1, fun _ => h9.2⟩) fun h9 => .inr ⟨by omega, h9⟩, fun h9 => h9.elim (fun h9 => .inl ⟨h9.1, h9.2 (by omega)⟩) fun h9 => .inr h9.2⟩
   ·exact hsame (by simp [cellF, k, u2]) (fun _ => ⟨by omega, by omega⟩) (fun h => by omega) (fun h => by omega)
end Go.Proofs.YtmllihbhphnolaaGreat
namespace Go.Proofs.YtmllihbhphnolaaGreat
open Go Go.CF
set_option maxRecDepth 20000
theorem clone_z (l : List Int) (hl : l.length ≤ 1000000000) : CallP Tryz.prog 83 [ints l] (ints l) := CallA.fz (by omega) (clone_o l hl)
end Go.Proofs.YtmllihbhphnolaaGreat
namespace Go.Proofs.YtmllihbhphnolaaGreat
open Go Go.CF
set_option maxRecDepth 20000
def isSt (k : Int) : Prop := k = 2 ∨ k = 3
def FitU (m : ModS) : Prop := ∀ a ∈ m.acts, ∀ u ∈ a.eff.updates, ∀ (i : Nat) t, u.2.1 = i → (mrgF m)[i]? = some t → (isSt t.kind ↔ u.1 = 0 ∨ u.1 = 1) ∧ (¬ isSt t.kind → t.lo ≤ u.2.2 ∧ u.2.2 ≤ t.hi)
structure KnL (m : ModS) (P : List EvS) (l : List MgS) : Prop where
 len : l.length = (mrgF m).length
 kn : ∀ (i : Nat) t g, (mrgF m)[i]? = some t → l[i]? = some g → Kn m t i P g ∧ g.marks.length ≤ P.length
theorem kd_of {m : ModS} (hm : LayOK m.sorts m.tables) {i : Nat} {t : TblS} (ht : (mrgF m)[i]? = some t) : Kd t := by
 have := kindM hm t (List.mem_of_getElem? ht)
 unfold Kd;omega
theorem updE_mem {m : ModS} {e : EvS} {i : Nat} {u : UpS} (h : updE m e i = some u) : ∃ a ∈ m.acts, u ∈ a.eff.updates ∧ u.2.1 = i := by
 unfold updE at h
 split at h
 ·have h1 := List.mem_of_find?_eq_some h
  have h2 := List.find?_some h
  have h2 : u.2.1 = (i : Int) := by simpa using h2
  rw [List.mem_reverse] at h1
  unfold usF at h1
  cases ha : m.acts[e.action.toNat]? with
  | none => rw [ha] at h1;cases h1
  | some a => rw [ha] at h1;exact ⟨a, List.mem_of_getElem? ha, h1, h2⟩
 ·cases h
theorem Kn.valG {m : ModS} {t : TblS} {i : Nat} {P : List EvS} {g : MgS} (hf : FitU m) (ht : (mrgF m)[i]? = some t) (hk : Kd t) (hu : UniqP P) (hP : ∀ e ∈ P, FormedE e) (h : Kn m t i P g) (hl : g.marks.length ≤ 1024) : ValG t g := by
 refine ⟨⟨fun h9 => ?_, fun h9 => ?_, fun h9 => ?_, hl⟩, fun j x hj hx => ⟨?_, fun q y hq hy hn => ?_, fun y hq hy h9 => ?_⟩⟩
 ·rw [h.drop] at h9;cases h9
 ·have := (h.put.1 h9.1).1
  have := h9.2
  unfold isReg at this;omega
 ·rcases h.four h9.1 with ⟨h1, _⟩|⟨x, h1, _⟩
  ·rw [h1] at h9;simp at h9
  ·rw [h1] at h9;simp at h9
 ·obtain ⟨e, he, u, h1, h2, rfl⟩ := h.mem (List.mem_of_getElem? hx)
  obtain ⟨f1, f2, ⟨y, f3, f4⟩, f5, f6, f7⟩ := hP e he
  have hlen := (List.getElem?_eq_some_iff.1 f3).1
  have := f1.1 y (List.mem_of_getElem? f3)
  have := f1.2
  unfold rngK at *
  unfold Btw at f6
  obtain ⟨a, ha, hua, hui⟩ := updE_mem h1
  have hfit := hf a ha u hua i t hui ht
  refine ⟨by simp only [mkE];omega, by simp only [mkE];omega, by simp only [mkE];omega, ?_⟩
  simp only [mkE, lowT, highT]
  by_cases hr : isReg t.kind
  ·rw [if_pos hr, if_pos hr, if_pos hr]
   exact hfit.2 (by unfold isReg at hr;unfold isSt;omega)
  ·rw [if_neg hr, if_neg hr, if_neg hr];omega
 ·have h1 := h.mem (List.mem_of_getElem? hx)
  have h2 := h.mem (List.mem_of_getElem? hy)
  have := asg_nm hu h2 h1 hn
  subst this
  obtain ⟨j1, rfl⟩ := List.getElem?_eq_some_iff.1 hx
  obtain ⟨q1, hq2⟩ := List.getElem?_eq_some_iff.1 hy
  have := List.pairwise_iff_getElem.1 h.srt q j q1 j1 hq
  rw [hq2] at this
  exact LtK_asymm _ _ this this
 ·obtain ⟨j1, rfl⟩ := List.getElem?_eq_some_iff.1 hx
  obtain ⟨q1, rfl⟩ := List.getElem?_eq_some_iff.1 hy
  exact LtK_asymm _ _ h9 (List.pairwise_iff_getElem.1 h.srt (j - 1) j q1 j1 (by omega))
theorem KnL.valL {m : ModS} {P : List EvS} {l : List MgS} (hm : LayOK m.sorts m.tables) (hf : FitU m) (hu : UniqP P) (hP : ∀ e ∈ P, FormedE e) (hl : P.length ≤ 1024) (h : KnL m P l) : ValL (mrgF m) l :=
 ⟨h.len.symm, fun i t g ht hg => (h.kn i t g ht hg).1.valG hf ht (kd_of hm ht) hu hP (by have := (h.kn i t g ht hg).2;omega)⟩
theorem KnL.nil (m : ModS) : KnL m [] (List.replicate (mrgF m).length mg0) := by
 refine ⟨by simp, fun i t g _ hg => ?_⟩
 have : g = mg0 := (List.mem_replicate.1 (List.mem_of_getElem? hg)).2
 subst this
 exact ⟨⟨by simp [mg0, PutP], rfl, .nil, fun _ => .inl ⟨rfl, fun x ⟨e, he, _⟩ => by cases he⟩, fun _ x => by simp [mg0, Liv]⟩, by simp [mg0]⟩
theorem apply_step {m : ModS} {P : List EvS} {l : List MgS} {e : EvS} (hm : LayOK m.sorts m.tables) (hv : ValL (mrgF m) l) (hl : P.length < 1024) (h : KnL m P l) (he : EvV m (e.past.length : Nat) e) (hn : Nxt P e) :
  ∃ l', applyF m l e = (0, l') ∧ KnL m (P ++ [e]) l' ∧ ∀ (i : Nat) t g, (mrgF m)[i]? = some t → l[i]? = some g → l'[i]? = some (cellF e t (updE m e i) g).2 := by
 have hstep : ∀ (i : Nat) t g, (mrgF m)[i]? = some t → l[i]? = some g → ∃ g', cellF e t (updE m e i) g = (0, g') ∧ Kn m t i (P ++ [e]) g' ∧ g'.marks.length ≤ g.marks.length + 1 := fun i t g ht hg =>
  cell_step (kd_of hm ht) (h.kn i t g ht hg).1 (by have := (h.kn i t g ht hg).2;omega) hn
 by_cases hk : e.kind = 0
 ·have hup : ∀ i : Nat, updE m e i = updF (usF m e) i := fun i => if_pos hk
  have hat : ∀ (i : Nat) t g, (mrgF m)[i]? = some t → l[i]? = some g → (cellsF (mrgF m) l (usF m e) e)[i]? = some (cellF e t (updE m e i) g) := fun i t g ht hg => by rw [hup];exact cellsF_at ht hg
  have hall : ∀ p ∈ cellsF (mrgF m) l (usF m e) e, p.1 = 0 := fun p hp => by
   obtain ⟨i, hi⟩ := List.getElem?_of_mem hp
   have hil := (List.getElem?_eq_some_iff.1 hi).1
   rw [cellsF_len] at hil
   obtain ⟨g, hg⟩ := get_of hil
   obtain ⟨t, ht⟩ := get_of (l := mrgF m) (i := i) (by rw [← h.len];exact hil)
   obtain ⟨g', h1, _⟩ := hstep i t g ht hg
   rw [hat i t g ht hg, h1] at hi
   cases hi;rfl
  refine ⟨(cellsF (mrgF m) l (usF m e) e).map (·.2), ?_, ⟨by rw [List.length_map, cellsF_len, h.len], fun i t g' ht hg' => ?_⟩, fun i t g ht hg => by rw [List.getElem?_map, hat i t g ht hg];rfl⟩
  ·rw [applyF, if_neg (fun h9 => h9 ⟨hv, he⟩), if_neg (fun h9 => h9 hk), gather_end (fun p hp => .inl (hall p hp)), if_neg]
   rintro ⟨p, hp, h8⟩
   rw [hall p hp] at h8;cases h8
  ·obtain ⟨g, hg⟩ := get_of (l := l) (i := i) (by rw [h.len];exact (List.getElem?_eq_some_iff.1 ht).1)
   obtain ⟨g2, h1, h2, h3⟩ := hstep i t g ht hg
   rw [List.getElem?_map, hat i t g ht hg, h1] at hg'
   cases hg'
   have := (h.kn i t g ht hg).2
   exact ⟨h2, by simp;omega⟩
 ·have hup : ∀ i : Nat, updE m e i = none := fun i => if_neg hk
  refine ⟨l, by rw [applyF, if_neg (fun h9 => h9 ⟨hv, he⟩), if_pos hk], ⟨h.len, fun i t g ht hg => ?_⟩, fun i t g ht hg => by rw [hup];exact hg⟩
  obtain ⟨g2, h1, h2, h3⟩ := hstep i t g ht hg
  rw [hup] at h1
  have e1 : g = g2 := congrArg Prod.snd h1
  subst e1
  have := (h.kn i t g ht hg).2
  exact ⟨h2, by simp;omega⟩
/-! ### Closed lists -/
theorem uniqP_of {l : List EvS} (h : Uniq l) : UniqP l := fun a ha b hb h1 h2 => h.eq ha hb (by rw [nm, nm, h1, h2])
theorem has_self {e : EvS} (h : FormedE e) : ¬ HasC e.past e.rep e.num := by
 obtain ⟨_, _, ⟨x, h1, h2⟩, _⟩ := h
 rintro ⟨_, _, _, y, h3, h4⟩
 rw [h1] at h3;cases h3;omega
theorem closed_past {l : List EvS} (h : ClosedE l) {e d : EvS} (hd : d ∈ l) (he : e ∈ l) (hh : HasC d.past e.rep e.num) : e.time < d.time ∧ Cont e.past d.past := by
 obtain ⟨h1, h2, h3, x, h4, h5⟩ := hh
 obtain ⟨y, hy, g1, g2, g3, g4⟩ := h.2.2.2 d hd e.rep.toNat x h4 e.num h3 h5
 have : y = e := uniqP_of h.2.1 y hy e he (by omega) g2
 subst this
 exact ⟨g4, g3⟩
theorem has_of_lt {l : List EvS} (h : ClosedE l) {e d : EvS} (hd : d ∈ l) (he : e ∈ l) (hr : e.rep = d.rep) (hn : e.num < d.num) : HasC d.past e.rep e.num := by
 obtain ⟨f1, f2, ⟨x, f3, f4⟩, _⟩ := (h.2.2.1 d hd).1
 obtain ⟨g1, g2, ⟨y, g3, g4⟩, _⟩ := (h.2.2.1 e he).1
 have := g1.1 y (List.mem_of_getElem? g3)
 unfold rngK at this
 exact ⟨f1, by omega, by omega, x, by rw [hr];exact f3, by omega⟩
end Go.Proofs.YtmllihbhphnolaaGreat
namespace Go.Proofs.YtmllihbhphnolaaGreat
open Go Go.CF
set_option maxRecDepth 20000
theorem rng_max (x y : Int) (hx : rngK x) (hy : rngK y) : rngK (max x y) := by unfold rngK at *;omega
theorem clkE_val {n : Nat} (hn : 1 ≤ n ∧ n ≤ 5) {l : List EvS} (hl : ∀ e ∈ l, rngK e.num) : ValC (clkE n l) := by
 have key : ∀ (l : List EvS) (c : List Int), (∀ e ∈ l, rngK e.num) → (∀ x ∈ c, rngK x) → ∀ x ∈ l.foldl (fun c e => c.set e.rep.toNat (max (c[e.rep.toNat]?.getD 0) e.num)) c, rngK x := by
  intro l
  induction l with
  | nil => exact fun c _ h => h
  | cons e l ih =>
   intro c h1 h2
   rw [List.foldl_cons]
   refine ih _ (fun d hd => h1 d (List.mem_cons_of_mem _ hd)) fun x hx => ?_
   rcases List.mem_or_eq_of_mem_set hx with h|rfl
   ·exact h2 x h
   ·have h3 := h1 e (by simp)
    have h4 : rngK (c[e.rep.toNat]?.getD 0) := by
     cases hc : c[e.rep.toNat]? with
     | none => simp [rngK]
     | some y => exact h2 y (List.mem_of_getElem? hc)
    exact rng_max _ _ h4 h3
 refine ⟨key l _ hl fun x hx => ?_, by rw [clkE_len];omega⟩
 rw [(List.mem_replicate.1 hx).2];simp [rngK]
theorem formed_num {e : EvS} (h : FormedE e) : rngK e.num := by
 obtain ⟨f1, _, ⟨x, f3, f4⟩, f5, _⟩ := h
 have := f1.1 x (List.mem_of_getElem? f3)
 unfold rngK at *;omega
end Go.Proofs.YtmllihbhphnolaaGreat
namespace Go.Proofs.YtmllihbhphnolaaGreat
open Go Go.CF
set_option maxRecDepth 20000
def tR : TblS := ⟨⟨#[114]⟩, 3, [], 0, 1, 1⟩
def k1 : MkS := ⟨0, 1, 1, 0⟩
def k2 : MkS := ⟨1, 1, 1, 0⟩
def k3 : MkS := ⟨0, 2, 2, 0⟩
def L0 : List MgS := [mg0, mg0]
def L1 : List MgS := [⟨false, false, [k1]⟩, ⟨true, false, []⟩]
def L2 : List MgS := [⟨false, false, [k1]⟩, ⟨true, false, [k2]⟩]
end Go.Proofs.YtmllihbhphnolaaGreat
namespace Go.Proofs.YtmllihbhphnolaaGreat
open Go Go.CF
set_option maxRecDepth 20000
theorem out_fx {v : Value} {L : List MgE} (hl : L.length ≤ 1000000) (hm : ∀ x ∈ L, x.marks.length ≤ 1000000) {l l' : List AV} {own : List Res} (ht : FX [] l l' own) : FX (outR v L) (.ow v :: l) (mgs (L.map MgE.g) :: l') own := by
 refine .sl .here (by omega) (.unb .here ?_) ht
 refine FX.rows (o := []) (r := mgeR) (f := mgeC) (g := mgC) (φ := MgE.g) L fun x hx o' => ?_
 have := hm x hx
 exact .le (ALe.refl _) (.le (ALe.refl _) (.sl .here (by omega) (FX.refl _) .nil))
theorem applyOK_p (m : ModS) (l : List MgS) (e : EvS) (F : List MgS) (hm : MOK m) (hF : applyF m l e = (0, F)) (hl : F.length ≤ 1000000) (hk : ∀ g ∈ F, g.marks.length ≤ 1000000) :
  CallP Tryz.prog 131 [mdl m, mgs l, evA' e] (.tup [mgs F, it 0]) := by
 refine CallA.fx (apply_a m l e hm) ?_
 rw [hF]
 rintro r o (⟨v, L, _, rfl, rfl, hL⟩|⟨h, _⟩)
 ·have hL : L.map MgE.g = F := hL
  subst hL
  exact .tup (out_fx (by simpa using hl) (fun x hx => hk x.g (List.mem_map_of_mem hx)) (FX.refl _)) .nil
 ·exact absurd rfl h
end Go.Proofs.YtmllihbhphnolaaGreat
namespace Go.Proofs.YtmllihbhphnolaaGreat
open Go Go.CF
set_option maxRecDepth 20000
theorem out_fx2 {v : Value} {L : List MgE} {o rest rest2 : List Res} (tk1 : Take o (arrR v 123 3 L mgeC) rest) (tk2 : Take rest (bunR (L.map mgeR)) rest2) (hl : L.length ≤ 1000000) (hm : ∀ x ∈ L, x.marks.length ≤ 1000000) {l l' : List AV} {own : List Res} (ht : FX rest2 l l' own) : FX o (.ow v :: l) (mgs (L.map MgE.g) :: l') own := by
 refine .sl tk1 (by omega) (.unb tk2 ?_) ht
 refine FX.rows (o := rest2) (r := mgeR) (f := mgeC) (g := mgC) (φ := MgE.g) L fun x hx o' => ?_
 have := hm x hx
 exact .le (ALe.refl _) (.le (ALe.refl _) (.sl .here (by omega) (FX.refl _) .nil))
theorem addF_len (l : List MkS) (m : MkS) : (addF l m).2.length ≤ l.length + 1 := by
 unfold addF
 split
 ·simp
 ·split
  ·simp
  ·simp [insK];omega
theorem cellF_len {e : EvS} {t : TblS} {u : Option UpS} {g : MgS} : (cellF e t u g).2.marks.length ≤ g.marks.length + 1 := by
 have hf : (fgK e.past g.marks).length ≤ g.marks.length := List.length_filter_le _ _
 match u with
 | none => simp [cellF]
 | some u =>
  simp only [cellF]
  split
  ·exact addF_len _ _
  ·split
   ·simp only;omega
   ·split
    ·simp only;omega
    ·split
     ·simp only
      match hg : g.marks with
      | [] => exact addF_len _ _
      | x :: r => simp only [lastF];repeat' split <;> simp
     ·split
      ·simp only
       have := addF_len (fgK e.past g.marks) ⟨e.rep, e.num, e.time, if isReg t.kind then u.2.2 else 0⟩
       omega
      ·simp
theorem applyF_ok {m : ModS} {l : List MgS} {e : EvS} (h : (applyF m l e).1 = 0) : ValL (mrgF m) l ∧ EvV m (e.past.length : Nat) e ∧ (applyF m l e).2.length = l.length ∧
  (∀ (i : Nat) g, l[i]? = some g → (e.kind = 0 → updF (usF m e) i = none) → (applyF m l e).2[i]? = some g) ∧ ∀ g ∈ (applyF m l e).2, g.marks.length ≤ 1000000 := by
 have hv : ValL (mrgF m) l ∧ EvV m (e.past.length : Nat) e := Classical.byContradiction fun h9 => by
  rw [applyF, if_pos h9] at h
  cases h
 have hmk : ∀ (i : Nat) g, l[i]? = some g → ∃ t, (mrgF m)[i]? = some t ∧ ValG t g := fun i g hi => by
  obtain ⟨t, ht⟩ := get_of (l := mrgF m) (i := i) (by have := hv.1.1;have := (List.getElem?_eq_some_iff.1 hi).1;omega)
  exact ⟨t, ht, hv.1.2 i t g ht hi⟩
 refine ⟨hv.1, hv.2, ?_⟩
 by_cases hk : e.kind = 0
 rotate_left
 ·have hF : applyF m l e = (0, l) := by rw [applyF, if_neg (fun h9 => h9 hv), if_pos hk]
  rw [hF]
  refine ⟨rfl, fun i g hg _ => hg, fun g hg => ?_⟩
  obtain ⟨i, hi⟩ := List.getElem?_of_mem hg
  obtain ⟨t, _, h9⟩ := hmk i g hi
  have := h9.1.2.2.2
  omega
 have hF : applyF m l e = gatherF (cellsF (mrgF m) l (usF m e) e) := by rw [applyF, if_neg (fun h9 => h9 hv), if_neg (fun h9 => h9 hk)]
 rw [hF] at h
 have hG : gatherF (cellsF (mrgF m) l (usF m e) e) = (0, (cellsF (mrgF m) l (usF m e) e).map (·.2)) := by
  unfold gatherF at h ⊢
  cases hf : (cellsF (mrgF m) l (usF m e) e).find? fun p => decide (p.1 ≠ 0 ∧ p.1 ≠ 8) with
  | some p =>
   have := List.find?_some hf
   rw [hf] at h
   simp at this
   exact absurd h this.1
  | none =>
   rw [hf] at h
   simp only at h ⊢
   split at h
   ·cases h
   ·rename_i h9;rw [if_neg h9]
 rw [hF, hG]
 refine ⟨by simp [cellsF_len], fun i g hg hu => ?_, fun g hg => ?_⟩
 ·obtain ⟨t, ht, _⟩ := hmk i g hg
  rw [List.getElem?_map, cellsF_at ht hg, hu hk]
  rfl
 ·obtain ⟨p, hp, rfl⟩ := List.mem_map.1 hg
  obtain ⟨i, hi⟩ := List.getElem?_of_mem hp
  have hil := (List.getElem?_eq_some_iff.1 hi).1
  rw [cellsF_len] at hil
  obtain ⟨x, hx⟩ := get_of hil
  obtain ⟨t, ht, h9⟩ := hmk i x hx
  rw [cellsF_at ht hx] at hi
  cases hi
  have h1 := cellF_len (e := e) (t := t) (u := updF (usF m e) i) (g := x)
  have := h9.1.2.2.2
  omega
end Go.Proofs.YtmllihbhphnolaaGreat
namespace Go.Proofs.YtmllihbhphnolaaGreat
open Go Go.CF
set_option maxRecDepth 20000
theorem clock_z {n : Nat} {l : List EvS} (hn : 1 ≤ n ∧ n ≤ 5) (hc : ClosedE l) (hl : ∀ e ∈ l, e.past.length = n) : CallP Tryz.prog 67 [.val (.int .i64 n), evs l] (.tup [ints (clkE n l), .val (.int .i64 0)]) :=
 CallA.fzt (by rw [clkE_len];omega) (clock_ok n l hn hc hl)
def FitO (t : TblS) (u : UpS) : Prop := (isSt t.kind ↔ u.1 = 0 ∨ u.1 = 1) ∧ (¬ isSt t.kind → t.lo ≤ u.2.2 ∧ u.2.2 ≤ t.hi)
def SuitE (m : ModS) (l : List EvS) : Prop := MOK m ∧ FewV l ∧ ClosedE l ∧ FitU m ∧ ∀ e ∈ l, EvV m (n0 l : Nat) e
end Go.Proofs.YtmllihbhphnolaaGreat
namespace Go.Proofs.YtmllihbhphnolaaGreat
open Go Go.CF
set_option maxRecDepth 20000
theorem ordE_len (l : List EvS) : (ordE l).length = l.length := (ordE_perm l).length_eq.symm
theorem uniqP_sub {l X : List EvS} (h : UniqP l) (hX : ∀ e ∈ X, e ∈ l) : UniqP X := fun a ha b hb => h a (hX a ha) b (hX b hb)
end Go.Proofs.YtmllihbhphnolaaGreat
namespace Go.Proofs.YtmllihbhphnolaaGreat
open Go Go.CF
set_option maxRecDepth 20000
structure NowS where
 clock : List Int
 time : Int
 state : List Int
 merged : List MgS
 places : List Int
def cntF (c : List Int) (e : EvS) : List Int := c.set e.rep.toNat (max (c[e.rep.toNat]?.getD 0) e.num)
def dltF (m : ModS) (e : EvS) : List (Int × Int) := match m.acts[e.action.toNat]? with
 | some a => a.eff.delta
 | none => []
def add1 (s : List Int) (p : Int × Int) : List Int := s.set p.1.toNat (IntKind.i64.wrap ((s[p.1.toNat]?.getD 0) + p.2))
def addD (s : List Int) (d : List (Int × Int)) : List Int := d.foldl add1 s
def addE (m : ModS) (s : List Int) (e : EvS) : List Int := if e.kind = 0 then addD s (dltF m e) else s
def insS (l : List Int) : Prop := ∀ x ∈ l, -1000000000 ≤ x ∧ x ≤ 1000000000
noncomputable instance (l : List Int) : Decidable (insS l) := Classical.propDecidable _
def withP (l : List Int) (n : Int) : List Int := if n ∈ l then l else l.filter (· < n) ++ n :: l.filter (n < ·)
def plE (l : List Int) (e : EvS) : List Int := if 0 < e.place then withP l e.place else l
def LateE (evs : List EvS) (e : EvS) : Prop := ∃ x ∈ evs, HasC e.past x.rep x.num ∧ e.time ≤ x.time
noncomputable instance (evs : List EvS) (e : EvS) : Decidable (LateE evs e) := Classical.propDecidable _
noncomputable def deliverF (m : ModS) (evs : List EvS) (w : NowS) (e : EvS) : Int × NowS :=
 if ¬ EvV m (w.clock.length : Nat) e then (1, w)
 else if HasC w.clock e.rep e.num then (6, w)
 else if ¬ Ins e.past w.clock then (9, w)
 else if LateE evs e then (2, w)
 else if e.kind = 0 ∧ ¬ insS (addE m w.state e) then (2, w)
 else if (applyF m w.merged e).1 ≠ 0 then ((applyF m w.merged e).1, w)
 else (0, ⟨cntF w.clock e, max w.time e.time, addE m w.state e, (applyF m w.merged e).2, plE w.places e⟩)
end Go.Proofs.YtmllihbhphnolaaGreat
namespace Go.Proofs.YtmllihbhphnolaaGreat
open Go Go.CF
set_option maxRecDepth 20000
/-! ### The clock of events -/
theorem clk_key {n : Nat} : ∀ (A : List EvS) (c : List Int), c.length = n → (∀ x ∈ c, 0 ≤ x) → (∀ a ∈ A, a.rep.toNat < n ∧ 0 ≤ a.num) → ∀ q, q < n →
  ∃ y, (A.foldl (fun c e => c.set e.rep.toNat (max (c[e.rep.toNat]?.getD 0) e.num)) c)[q]? = some y ∧ 0 ≤ y ∧ ∀ k, 1 ≤ k → (k ≤ y ↔ (∃ z, c[q]? = some z ∧ k ≤ z) ∨ ∃ a ∈ A, a.rep.toNat = q ∧ k ≤ a.num) := by
 intro A
 induction A with
 | nil =>
  intro c hc h0 _ q hq
  obtain ⟨z, hz⟩ := get_of (l := c) (i := q) (by omega)
  exact ⟨z, hz, h0 z (List.mem_of_getElem? hz), fun k _ => by simp [hz]⟩
 | cons a A ih =>
  intro c hc h0 hA q hq
  obtain ⟨h1, h2⟩ := hA a (by simp)
  obtain ⟨u, hu⟩ := get_of (l := c) (i := a.rep.toNat) (by omega)
  have hu0 := h0 u (List.mem_of_getElem? hu)
  rw [List.foldl_cons]
  obtain ⟨y, e1, e2, e3⟩ := ih (c.set a.rep.toNat (max (c[a.rep.toNat]?.getD 0) a.num)) (by rw [List.length_set];exact hc) (fun x hx => by
   rcases List.mem_or_eq_of_mem_set hx with h|h
   ·exact h0 x h
   ·rw [h, hu, Option.getD_some];omega) (fun b hb => hA b (List.mem_cons_of_mem _ hb)) q hq
  refine ⟨y, e1, e2, fun k hk => (e3 k hk).trans ?_⟩
  rw [List.getElem?_set]
  by_cases hqa : a.rep.toNat = q
  ·subst hqa
   rw [if_pos rfl, if_pos (by omega), hu, Option.getD_some]
   constructor
   ·rintro (⟨z, hz, hkz⟩|⟨b, hb, hb1, hb2⟩)
    ·cases hz
     by_cases hku : k ≤ u
     ·exact .inl ⟨u, rfl, hku⟩
     ·exact .inr ⟨a, by simp, rfl, by omega⟩
    ·exact .inr ⟨b, List.mem_cons_of_mem _ hb, hb1, hb2⟩
   ·rintro (⟨z, hz, hkz⟩|⟨b, hb, hb1, hb2⟩)
    ·cases hz;exact .inl ⟨_, rfl, by omega⟩
    ·rcases List.mem_cons.1 hb with rfl|hb
     ·exact .inl ⟨_, rfl, by omega⟩
     ·exact .inr ⟨b, hb, hb1, hb2⟩
  ·rw [if_neg hqa]
   constructor
   ·rintro (h|⟨b, hb, hb1, hb2⟩)
    ·exact .inl h
    ·exact .inr ⟨b, List.mem_cons_of_mem _ hb, hb1, hb2⟩
   ·rintro (h|⟨b, hb, hb1, hb2⟩)
    ·exact .inl h
    ·rcases List.mem_cons.1 hb with rfl|hb
     ·exact absurd hb1 hqa
     ·exact .inr ⟨b, hb, hb1, hb2⟩
structure Cau (l A : List EvS) : Prop where
 sub : ∀ a ∈ A, a ∈ l
 cls : ∀ a ∈ A, ∀ d ∈ l, HasC a.past d.rep d.num → d ∈ A
theorem formed_rep {e : EvS} (h : FormedE e) : 0 ≤ e.rep ∧ e.rep.toNat < e.past.length ∧ 1 ≤ e.num := by
 obtain ⟨f1, f2, ⟨x, f3, f4⟩, _⟩ := h
 have := f1.1 x (List.mem_of_getElem? f3)
 unfold rngK at this
 exact ⟨f2, (List.getElem?_eq_some_iff.1 f3).1, by omega⟩
theorem n0_rng {l : List EvS} (hc : ClosedE l) {e : EvS} (he : e ∈ l) : 1 ≤ n0 l ∧ n0 l ≤ 5 := by
 have h := hc.2.2.1 e he
 rw [← h.2];exact h.1.1.2
theorem clkE_at {l A : List EvS} (hc : ClosedE l) (hA : ∀ a ∈ A, a ∈ l) {q : Nat} (hq : q < n0 l) : ∃ y, (clkE (n0 l) A)[q]? = some y ∧ 0 ≤ y ∧ ∀ k, 1 ≤ k → (k ≤ y ↔ ∃ a ∈ A, a.rep.toNat = q ∧ k ≤ a.num) := by
 obtain ⟨y, h1, h2, h3⟩ := clk_key (n := n0 l) A (List.replicate (n0 l) 0) (by simp) (fun x hx => by rw [(List.mem_replicate.1 hx).2];exact Int.le_refl 0) (fun a ha => by
  have hf := hc.2.2.1 a (hA a ha)
  have := formed_rep hf.1
  rw [hf.2] at this
  exact ⟨this.2.1, by omega⟩) q hq
 refine ⟨y, h1, h2, fun k hk => (h3 k hk).trans ⟨fun h => h.elim (fun ⟨z, hz, hkz⟩ => ?_) id, .inr⟩⟩
 rw [List.getElem?_replicate, if_pos hq] at hz
 cases hz;omega
theorem clk_valC {l A : List EvS} (hc : ClosedE l) (hA : ∀ a ∈ A, a ∈ l) (hn : 1 ≤ n0 l ∧ n0 l ≤ 5) : ValC (clkE (n0 l) A) := clkE_val hn fun e he => formed_num (hc.2.2.1 e (hA e he)).1
theorem clk_has {l A : List EvS} (hc : ClosedE l) (hA : Cau l A) {e : EvS} (he : e ∈ l) : HasC (clkE (n0 l) A) e.rep e.num ↔ e ∈ A := by
 have hf := hc.2.2.1 e he
 have hr := formed_rep hf.1
 rw [hf.2] at hr
 obtain ⟨y, h1, h2, h3⟩ := clkE_at hc hA.sub hr.2.1
 constructor
 ·rintro ⟨_, _, _, x, hx, hnx⟩
  rw [h1] at hx;cases hx
  obtain ⟨a, ha, ha1, ha2⟩ := (h3 e.num hr.2.2).1 hnx
  have hfa := formed_rep (hc.2.2.1 a (hA.sub a ha)).1
  have har : e.rep = a.rep := by omega
  by_cases hlt : e.num < a.num
  ·exact hA.cls a ha e he (has_of_lt hc (hA.sub a ha) he har hlt)
  ·have := uniqP_of hc.2.1 e he a (hA.sub a ha) har (by omega)
   rw [this];exact ha
 ·intro h
  exact ⟨clk_valC hc hA.sub (n0_rng hc he), hr.1, hr.2.2, y, h1, (h3 e.num hr.2.2).2 ⟨e, h, rfl, Int.le_refl _⟩⟩
theorem clk_ins {l A : List EvS} (hc : ClosedE l) (hA : Cau l A) {e : EvS} (he : e ∈ l) (hp : ∀ d ∈ l, HasC e.past d.rep d.num → d ∈ A) : Ins e.past (clkE (n0 l) A) := fun i x y hx hy => by
 have hf := hc.2.2.1 e he
 have hil := (List.getElem?_eq_some_iff.1 hx).1
 obtain ⟨z, h1, h2, h3⟩ := clkE_at hc hA.sub (q := i) (by rw [← hf.2];exact hil)
 rw [hy] at h1;cases h1
 by_cases hx1 : 1 ≤ x
 ·obtain ⟨d, hd, g1, g2, _, _⟩ := hc.2.2.2 e he i x hx x hx1 (Int.le_refl _)
  have hdA := hp d hd ⟨hf.1.1, by omega, by omega, x, by rw [g1];simpa using hx, by omega⟩
  exact (h3 x hx1).2 ⟨d, hdA, by omega, by omega⟩
 ·omega
/-! ### States -/
theorem add1_len (s : List Int) (p : Int × Int) : (add1 s p).length = s.length := by simp [add1]
theorem addD_len (d : List (Int × Int)) : ∀ s : List Int, (addD s d).length = s.length := by
 induction d with
 | nil => intro s;rfl
 | cons p d ih => intro s;rw [addD, List.foldl_cons];exact (ih _).trans (add1_len s p)
theorem addE_len (m : ModS) (s : List Int) (e : EvS) : (addE m s e).length = s.length := by
 unfold addE;split
 ·exact addD_len _ s
 ·rfl
theorem wrap_id {x : Int} (h : -9223372036854775808 ≤ x ∧ x ≤ 9223372036854775807) : IntKind.i64.wrap x = x := by rw [IntKind.wrap_i64];omega
theorem addD_bnd (d : List (Int × Int)) : ∀ (s : List Int) (B : Int), 0 ≤ B → B + 1000 * d.length ≤ 1000000000 → (∀ x ∈ s, -B ≤ x ∧ x ≤ B) → (∀ p ∈ d, -1000 ≤ p.2 ∧ p.2 ≤ 1000) → ∀ x ∈ addD s d, -(B + 1000 * d.length) ≤ x ∧ x ≤ B + 1000 * d.length := by
 induction d with
 | nil => intro s B _ _ h _ x hx;have := h x hx;simp only [List.length_nil];omega
 | cons p d ih =>
  intro s B hB hb h hd x hx
  simp only [List.length_cons] at hb ⊢
  have hp := hd p (by simp)
  have h1 : ∀ x ∈ add1 s p, -(B + 1000) ≤ x ∧ x ≤ B + 1000 := fun x hx => by
   rcases List.mem_or_eq_of_mem_set hx with h9|h9
   ·have := h x h9;omega
   ·have h0 : -B ≤ s[p.1.toNat]?.getD 0 ∧ s[p.1.toNat]?.getD 0 ≤ B := by
     cases hs : s[p.1.toNat]? with
     | none => simp only [Option.getD_none];omega
     | some z => exact h z (List.mem_of_getElem? hs)
    rw [h9, wrap_id (by omega)]
    omega
  have := ih (add1 s p) (B + 1000) (by omega) (by omega) h1 (fun q hq => hd q (List.mem_cons_of_mem _ hq)) x hx
  omega
def SmD (m : ModS) : Prop := ∀ a ∈ m.acts, a.eff.delta.length ≤ 20 ∧ ∀ p ∈ a.eff.delta, -1000 ≤ p.2 ∧ p.2 ≤ 1000
theorem dlt_sm {m : ModS} (h : SmD m) (e : EvS) : (dltF m e).length ≤ 20 ∧ ∀ p ∈ dltF m e, -1000 ≤ p.2 ∧ p.2 ≤ 1000 := by
 unfold dltF
 cases ha : m.acts[e.action.toNat]? with
 | none => simp
 | some a => exact h a (List.mem_of_getElem? ha)
theorem addE_bnd {m : ModS} (h : SmD m) (e : EvS) {s : List Int} {k : Nat} (hk : k ≤ 1000) (hs : ∀ x ∈ s, -(1000 + 20000 * (k : Int)) ≤ x ∧ x ≤ 1000 + 20000 * (k : Int)) : ∀ x ∈ addE m s e, -(1000 + 20000 * ((k + 1 : Nat) : Int)) ≤ x ∧ x ≤ 1000 + 20000 * ((k + 1 : Nat) : Int) := by
 intro x hx
 unfold addE at hx
 split at hx
 ·obtain ⟨d1, d2⟩ := dlt_sm h e
  have := addD_bnd (dltF m e) s (1000 + 20000 * (k : Int)) (by omega) (by omega) hs d2 x hx
  omega
 ·have := hs x hx;omega
structure StoA (m : ModS) (l : List EvS) (ld : List Int) (A : List EvS) (w : NowS) : Prop where
 clock : w.clock = clkE (n0 l) A
 time : w.time = A.foldl (fun t e => max t e.time) 0
 state : w.state = A.foldl (addE m) ld
 merged : KnL m A w.merged
 places : w.places = A.foldl plE []
theorem sto_bnd {m : ModS} (h : SmD m) {ld : List Int} (hl : ∀ x ∈ ld, -1000 ≤ x ∧ x ≤ 1000) : ∀ (A : List EvS), A.length ≤ 1000 → ∀ x ∈ A.foldl (addE m) ld, -(1000 + 20000 * (A.length : Int)) ≤ x ∧ x ≤ 1000 + 20000 * (A.length : Int) := by
 have key : ∀ (A : List EvS), A.reverse.length ≤ 1000 → ∀ x ∈ A.reverse.foldl (addE m) ld, -(1000 + 20000 * (A.reverse.length : Int)) ≤ x ∧ x ≤ 1000 + 20000 * (A.reverse.length : Int) := by
  intro A
  induction A with
  | nil => intro _ x hx;have := hl x hx;simp;omega
  | cons e A ih =>
   intro hA x hx
   rw [List.reverse_cons, List.foldl_append] at hx
   rw [List.length_reverse, List.length_cons] at hA
   have h2 := addE_bnd h e (k := A.reverse.length) (by simp;omega) (ih (by simp;omega)) x hx
   simpa using h2
 intro A hA
 have := key A.reverse (by simpa using hA)
 simpa using this
theorem nxt_cau {l A : List EvS} (hc : ClosedE l) (hA : Cau l A) {e : EvS} (he : e ∈ l) (hn : e ∉ A) : Nxt A e := by
 have hu := uniqP_of hc.2.1
 refine ⟨fun p hp ⟨h1, h2⟩ => hn ?_, fun p hp hh => hn (hA.cls p hp e he hh), fun p hp ⟨h1, h2⟩ => ?_, has_self (hc.2.2.1 e he).1⟩
 ·rw [← hu p (hA.sub p hp) e he h1 h2];exact hp
 ·rcases Int.lt_trichotomy p.num e.num with h|h|h
  ·have := (closed_past hc he (hA.sub p hp) (has_of_lt hc he (hA.sub p hp) h2 h)).1
   omega
  ·exact hn (by rw [← hu p (hA.sub p hp) e he h2 h];exact hp)
  ·exact hn (hA.cls p hp e he (has_of_lt hc (hA.sub p hp) he h2.symm h))
theorem deliver_ok {m : ModS} {l A : List EvS} {ld : List Int} {w : NowS} {e : EvS} (hs : SuitE m l) (hl : l.length ≤ 100) (hd : SmD m) (hld : ∀ x ∈ ld, -1000 ≤ x ∧ x ≤ 1000) (hw : StoA m l ld A w) (hAl : A.length ≤ 100) (hA : Cau l A) (he : e ∈ l) (hn : e ∉ A) (hp : ∀ d ∈ l, HasC e.past d.rep d.num → d ∈ A) :
  ∃ w', deliverF m A w e = (0, w') ∧ StoA m l ld (A ++ [e]) w' := by
 obtain ⟨hm, hfw, hc, hf, hv⟩ := hs
 have hnx := nxt_cau hc hA he hn
 have hu : UniqP A := uniqP_sub (uniqP_of hc.2.1) hA.sub
 have hval := hw.merged.valL hm.lay hf hu (fun x hx => (hc.2.2.1 x (hA.sub x hx)).1) (by omega)
 have hpl : e.past.length = n0 l := (hc.2.2.1 e he).2
 have hev : EvV m (e.past.length : Nat) e := by rw [hpl];exact hv e he
 obtain ⟨k', a1, a2, -⟩ := apply_step hm.lay hval (by omega) hw.merged hev hnx
 have hclen : w.clock.length = n0 l := by rw [hw.clock, clkE_len]
 have hb := addE_bnd hd e (k := A.length) (by omega) (sto_bnd hd hld A (by omega))
 have h1 : EvV m (w.clock.length : Nat) e := by rw [hclen];exact hv e he
 have h2 : ¬ HasC w.clock e.rep e.num := by rw [hw.clock];exact fun h => hn ((clk_has hc hA he).1 h)
 have h3 : Ins e.past w.clock := by rw [hw.clock];exact clk_ins hc hA he hp
 have h4 : ¬ LateE A e := fun ⟨x, hx, hh, ht⟩ => by
  have := (closed_past hc he (hA.sub x hx) hh).1
  omega
 have h5 : ¬ (e.kind = 0 ∧ ¬ insS (addE m w.state e)) := fun ⟨_, h⟩ => h fun x hx => by
  rw [hw.state] at hx
  have := hb x hx
  omega
 have h6 : ¬ (applyF m w.merged e).1 ≠ 0 := by rw [a1];exact fun h => h rfl
 refine ⟨⟨cntF w.clock e, max w.time e.time, addE m w.state e, k', plE w.places e⟩, ?_, ⟨?_, ?_, ?_, a2, ?_⟩⟩
 ·rw [deliverF, if_neg (fun h => h h1), if_neg h2, if_neg (fun h => h h3), if_neg h4, if_neg h5, if_neg h6, a1]
 ·simp only [hw.clock, clkE, List.foldl_append, cntF];rfl
 ·simp only [hw.time, List.foldl_append];rfl
 ·simp only [hw.state, List.foldl_append];rfl
 ·simp only [hw.places, List.foldl_append];rfl
end Go.Proofs.YtmllihbhphnolaaGreat
namespace Go.Proofs.YtmllihbhphnolaaGreat
open Go Go.CF
set_option maxRecDepth 20000
structure ExtO (l X : List EvS) : Prop where
 sub : ∀ e ∈ X, e ∈ l
 nxt : ∀ (i : Nat) e, X[i]? = some e → e ∉ X.take i ∧ ∀ d ∈ l, HasC e.past d.rep d.num → d ∈ X.take i
theorem ExtO.nil (l : List EvS) : ExtO l [] := ⟨fun e h => (by cases h), fun i e h => by simp at h⟩
theorem ExtO.snoc {l X : List EvS} {e : EvS} (h : ExtO l X) (he : e ∈ l) (hn : e ∉ X) (hp : ∀ d ∈ l, HasC e.past d.rep d.num → d ∈ X) : ExtO l (X ++ [e]) := by
 refine ⟨fun a ha => (List.mem_append.1 ha).elim (h.sub a) fun ha => by rw [List.mem_singleton.1 ha];exact he, fun i a ha => ?_⟩
 have hi := (List.getElem?_eq_some_iff.1 ha).1
 rw [List.length_append, List.length_singleton] at hi
 by_cases hx : i < X.length
 ·rw [List.getElem?_append_left hx] at ha
  rw [List.take_append_of_le_length (by omega)]
  exact h.nxt i a ha
 ·have : i = X.length := by omega
  subst this
  rw [List.getElem?_append_right (Nat.le_refl _), Nat.sub_self] at ha
  cases ha
  rw [List.take_left]
  exact ⟨hn, hp⟩
theorem ExtO.cau {l X : List EvS} (h : ExtO l X) (i : Nat) : Cau l (X.take i) := by
 refine ⟨fun a ha => h.sub a (List.mem_of_mem_take ha), fun a ha d hd hh => ?_⟩
 obtain ⟨j, hj⟩ := List.getElem?_of_mem ha
 rw [List.getElem?_take] at hj
 split at hj
 ·rename_i hji
  have := (h.nxt j a hj).2 d hd hh
  rw [show X.take j = (X.take i).take j by rw [List.take_take, Nat.min_eq_left (by omega)]] at this
  exact List.mem_of_mem_take this
 ·cases hj
theorem sto0 (m : ModS) (l : List EvS) (ld : List Int) : StoA m l ld [] ⟨List.replicate (n0 l) 0, 0, ld, List.replicate (mrgF m).length mg0, []⟩ := ⟨rfl, rfl, rfl, KnL.nil m, rfl⟩
theorem foldl_perm {α β : Type} {f : β → α → β} (hf : ∀ b x y, f (f b x) y = f (f b y) x) {l l' : List α} (h : l.Perm l') : ∀ b, l.foldl f b = l'.foldl f b := by
 induction h with
 | nil => exact fun _ => rfl
 | cons x _ ih => exact fun b => ih (f b x)
 | swap x y l => intro b;simp only [List.foldl_cons];rw [hf]
 | trans _ _ h1 h2 => exact fun b => (h1 b).trans (h2 b)
theorem wrap_add {x p q : Int} : IntKind.i64.wrap (IntKind.i64.wrap (x + p) + q) = IntKind.i64.wrap (IntKind.i64.wrap (x + q) + p) := by
 simp only [IntKind.wrap_i64];omega
theorem add1_comm (s : List Int) (p q : Int × Int) : add1 (add1 s p) q = add1 (add1 s q) p := by
 unfold add1
 by_cases h : p.1.toNat = q.1.toNat
 ·rw [h]
  by_cases hl : q.1.toNat < s.length
  ·simp only [List.getElem?_set_self hl, Option.getD_some, List.set_set, wrap_add]
  ·simp only [List.set_eq_of_length_le (show s.length ≤ q.1.toNat by omega)]
 ·rw [List.getElem?_set_ne h, List.getElem?_set_ne (fun h9 => h h9.symm), List.set_comm _ _ h]
theorem addD_add1 (d : List (Int × Int)) : ∀ (s : List Int) (p : Int × Int), addD (add1 s p) d = add1 (addD s d) p := by
 induction d with
 | nil => exact fun _ _ => rfl
 | cons q d ih =>
  intro s p
  have h1 : addD (add1 s p) (q :: d) = addD (add1 (add1 s p) q) d := rfl
  have h2 : addD s (q :: d) = addD (add1 s q) d := rfl
  rw [h1, h2, add1_comm, ih]
theorem addD_comm (d : List (Int × Int)) : ∀ (s : List Int) (d' : List (Int × Int)), addD (addD s d) d' = addD (addD s d') d := by
 induction d with
 | nil => exact fun _ _ => rfl
 | cons q d ih =>
  intro s d'
  have h1 : ∀ s, addD s (q :: d) = addD (add1 s q) d := fun _ => rfl
  rw [h1, h1, ih, addD_add1]
theorem addE_comm (m : ModS) (s : List Int) (a b : EvS) : addE m (addE m s a) b = addE m (addE m s b) a := by
 unfold addE
 split <;> split <;> first|rfl|exact addD_comm _ _ _
theorem state_perm {m : ModS} {l l' : List EvS} (h : l.Perm l') (ld : List Int) : l.foldl (addE m) ld = l'.foldl (addE m) ld := foldl_perm (addE_comm m) h ld
theorem time_perm {l l' : List EvS} (h : l.Perm l') (t : Int) : l.foldl (fun t e => max t e.time) t = l'.foldl (fun t e => max t e.time) t := foldl_perm (fun b x y => by omega) h t
theorem clkE_perm {n : Nat} {l l' : List EvS} (h : l.Perm l') : clkE n l = clkE n l' := by
 unfold clkE
 refine foldl_perm (fun c x y => ?_) h _
 by_cases hr : x.rep.toNat = y.rep.toNat
 ·rw [hr]
  by_cases hl : y.rep.toNat < c.length
  ·simp only [List.getElem?_set_self hl, Option.getD_some, List.set_set]
   congr 1;omega
  ·simp only [List.set_eq_of_length_le (show c.length ≤ y.rep.toNat by omega)]
 ·rw [List.getElem?_set_ne hr, List.getElem?_set_ne (fun h9 => hr h9.symm), List.set_comm _ _ hr]
/-! ### Places -/
noncomputable def plL (l : List EvS) : List Int := (l.filter fun e => decide (0 < e.place)).map (·.place)
theorem withP_si {l s : List Int} {n : Int} (h : SI l s) : SI (l ++ [n]) (withP s n) := by
 unfold withP
 split
 ·rename_i hn;exact si_keep h hn
 ·rename_i hn
  refine ⟨List.pairwise_append.2 ⟨h.1.filter _, List.pairwise_cons.2 ⟨fun y hy => by simpa using (List.mem_filter.1 hy).2, h.1.filter _⟩, fun a ha b hb => ?_⟩, fun y => ?_⟩
  ·have ha : a < n := by simpa using (List.mem_filter.1 ha).2
   rcases List.mem_cons.1 hb with rfl|hb
   ·exact ha
   ·have hb : n < b := by simpa using (List.mem_filter.1 hb).2
    omega
  ·constructor
   ·intro h9
    rcases List.mem_append.1 h9 with h9|h9
    ·exact List.mem_append.2 (.inl ((h.2 y).1 (List.mem_filter.1 h9).1))
    ·rcases List.mem_cons.1 h9 with rfl|h9
     ·simp
     ·exact List.mem_append.2 (.inl ((h.2 y).1 (List.mem_filter.1 h9).1))
   ·intro h9
    rcases List.mem_append.1 h9 with h9|h9
    ·have hy := (h.2 y).2 h9
     have hne : y ≠ n := fun e => hn (e ▸ hy)
     by_cases hlt : y < n
     ·exact List.mem_append.2 (.inl (List.mem_filter.2 ⟨hy, by simpa using hlt⟩))
     ·exact List.mem_append.2 (.inr (List.mem_cons.2 (.inr (List.mem_filter.2 ⟨hy, by simp only [decide_eq_true_eq];omega⟩))))
    ·rw [List.mem_singleton.1 h9];simp
theorem plE_si {l : List EvS} : ∀ {P : List Int} {s : List Int}, SI P s → SI (P ++ plL l) (l.foldl plE s) := by
 induction l with
 | nil => intro P s h;simpa [plL] using h
 | cons e l ih =>
  intro P s h
  rw [List.foldl_cons]
  by_cases he : 0 < e.place
  ·have h1 := ih (withP_si (n := e.place) h)
   rw [show plE s e = withP s e.place from if_pos he]
   rw [show P ++ plL (e :: l) = P ++ [e.place] ++ plL l by simp [plL, he]]
   exact h1
  ·rw [show plE s e = s from if_neg he]
   rw [show P ++ plL (e :: l) = P ++ plL l by simp [plL, he]]
   exact ih h
theorem places_srt (l : List EvS) : l.foldl plE [] = srtD (plL l) := by
 have h : SI ([] ++ plL l) (l.foldl plE []) := plE_si ⟨List.Pairwise.nil, by simp⟩
 rw [List.nil_append] at h
 exact h.uniq (srtD_si _)
end Go.Proofs.YtmllihbhphnolaaGreat
namespace Go.Proofs.YtmllihbhphnolaaGreat
open Go Go.CF
set_option maxRecDepth 20000
theorem Kn.put2 {m : ModS} {t : TblS} {i : Nat} {P : List EvS} {g : MgS} (h : Kn m t i P g) (k : t.kind ≠ 3) : g.put = false := by
 cases hp : g.put
 ·rfl
 ·exact absurd (h.put.1 hp).1 k
end Go.Proofs.YtmllihbhphnolaaGreat
namespace Go.Proofs.YtmllihbhphnolaaGreat
open Go Go.CF
set_option maxRecDepth 20000
abbrev WrS := EvS × UpS
def wrF (m : ModS) (l : List EvS) (i : Nat) : List WrS := l.filterMap fun e => (updE m e i).map fun u => (e, u)
theorem wr_mem {m : ModS} {l : List EvS} {i : Nat} {w : WrS} : w ∈ wrF m l i ↔ w.1 ∈ l ∧ updE m w.1 i = some w.2 := by
 unfold wrF
 rw [List.mem_filterMap]
 constructor
 ·rintro ⟨e, he, h⟩
  cases hu : updE m e i with
  | none => rw [hu] at h;cases h
  | some u => rw [hu] at h;cases h;exact ⟨he, hu⟩
 ·rintro ⟨h1, h2⟩
  exact ⟨w.1, h1, by rw [h2];rfl⟩
def SeenW (e : EvS) (W : List WrS) (k : Int) : Prop := ∃ x ∈ W, x.2.1 = k ∧ HasC x.1.past e.rep e.num
noncomputable instance (e : EvS) (W : List WrS) (k : Int) : Decidable (SeenW e W k) := Classical.propDecidable _
def LtT (a b : EvS) : Prop := a.time < b.time ∨ a.time = b.time ∧ a.rep < b.rep
def Live0 (W : List WrS) : Prop := ∃ w ∈ W, w.2.1 = 0 ∧ ¬ SeenW w.1 W 1
def In1 (W : List WrS) : Prop := (∃ w ∈ W, w.2.1 = 0) ∧ ¬ ∃ w ∈ W, w.2.1 = 1 ∧ ¬ SeenW w.1 W 0
noncomputable instance (W : List WrS) : Decidable (Live0 W) := Classical.propDecidable _
noncomputable instance (W : List WrS) : Decidable (In1 W) := Classical.propDecidable _
noncomputable def vals5 (W : List WrS) : List Int := (W.filter fun w => decide (w.2.1 = 2 ∧ ¬ SeenW w.1 W 2)).map (·.2.2.2)
structure ValD (t : TblS) (W : List WrS) (r : List Int) : Prop where
 two : t.kind = 2 → r = [if Live0 W then 1 else 0]
 three : t.kind = 3 → r = [if In1 W then 1 else 0]
 four : t.kind = 4 → ((∀ w ∈ W, w.2.1 ≠ 2) ∧ r = [iniT t]) ∨ ∃ w ∈ W, w.2.1 = 2 ∧ r = [w.2.2.2] ∧ ∀ x ∈ W, x.2.1 = 2 → ¬ LtT w.1 x.1
 five : t.kind = 5 → r = if vals5 W = [] then [iniT t] else srtD (vals5 W)
theorem srtD_set {l l' : List Int} (h : ∀ x, x ∈ l ↔ x ∈ l') : srtD l = srtD l' :=
 (srtD_si l).uniq ⟨(srtD_si l').1, fun x => ((srtD_si l').2 x).trans (h x).symm⟩
theorem srtD_one (x : Int) : srtD [x] = [x] := (srtD_si [x]).uniq ⟨List.pairwise_singleton _ _, fun _ => Iff.rfl⟩
theorem same_tr {l : List EvS} (hc : ClosedE l) {a b : EvS} (ha : a ∈ l) (hb : b ∈ l) (ht : a.time = b.time) (hr : a.rep = b.rep) : a = b := by
 rcases Int.lt_trichotomy a.num b.num with h|h|h
 ·have := (closed_past hc hb ha (has_of_lt hc hb ha hr h)).1;omega
 ·exact uniqP_of hc.2.1 a ha b hb hr h
 ·have := (closed_past hc ha hb (has_of_lt hc ha hb hr.symm h)).1;omega
theorem liv_wr {m : ModS} {t : TblS} {i : Nat} {l : List EvS} {x : MkS} : Liv m t i l x ↔ ∃ w ∈ wrF m l i, w.2.1 = bK t.kind ∧ x = mkE t w.1 w.2 ∧ ¬ SeenW w.1 (wrF m l i) (kK t.kind) := by
 constructor
 ·rintro ⟨e, he, u, h1, h2, h3, h4⟩
  refine ⟨(e, u), wr_mem.2 ⟨he, h1⟩, h2, h3, fun ⟨y, hy, hk, hh⟩ => ?_⟩
  obtain ⟨y1, y2⟩ := wr_mem.1 hy
  exact h4 y.1 y1 y.2 y2 hk hh
 ·rintro ⟨w, hw, h2, h3, h4⟩
  obtain ⟨w1, w2⟩ := wr_mem.1 hw
  exact ⟨w.1, w1, w.2, w2, h2, h3, fun d hd v hv hk hh => h4 ⟨(d, v), wr_mem.2 ⟨hd, hv⟩, hk, hh⟩⟩
theorem asg_wr {m : ModS} {t : TblS} {i : Nat} {l : List EvS} {x : MkS} : Asg m t i l x ↔ ∃ w ∈ wrF m l i, w.2.1 = bK t.kind ∧ x = mkE t w.1 w.2 := by
 constructor
 ·rintro ⟨e, he, u, h1, h2, h3⟩
  exact ⟨(e, u), wr_mem.2 ⟨he, h1⟩, h2, h3⟩
 ·rintro ⟨w, hw, h2, h3⟩
  obtain ⟨w1, w2⟩ := wr_mem.1 hw
  exact ⟨w.1, w1, w.2, w2, h2, h3⟩
theorem marks_nil {t : TblS} {m : ModS} {i : Nat} {l : List EvS} {g : MgS} (h : Kn m t i l g) (k4 : t.kind ≠ 4) : g.marks.length = 0 ↔ ¬ ∃ w ∈ wrF m l i, w.2.1 = bK t.kind ∧ ¬ SeenW w.1 (wrF m l i) (kK t.kind) := by
 constructor
 ·rintro h0 ⟨w, hw, h1, h2⟩
  have := (h.liv k4 (mkE t w.1 w.2)).2 (liv_wr.2 ⟨w, hw, h1, rfl, h2⟩)
  rw [List.eq_nil_of_length_eq_zero h0] at this
  cases this
 ·intro hn
  rcases Nat.eq_zero_or_pos g.marks.length with h0|h0
  ·exact h0
  ·obtain ⟨x, hx⟩ := get_of (l := g.marks) (i := 0) h0
   obtain ⟨w, hw, h1, _, h2⟩ := liv_wr.1 ((h.liv k4 x).1 (List.mem_of_getElem? hx))
   exact absurd ⟨w, hw, h1, h2⟩ hn
theorem valD_eq {m : ModS} {t : TblS} {i : Nat} {l : List EvS} {g : MgS} {r : List Int} (hk : Kd t) (hc : ClosedE l) (h : Kn m t i l g) (hd : ValD t (wrF m l i) r) : r = valK t g := by
 rcases hk with k|k|k|k
 ·have hv : valK t g = setV t g := if_pos (.inl k)
  have hb : setB t g = (g.put || decide (0 < g.marks.length)) := if_pos k
  rw [hd.two k, hv, setV, hb, h.put2 (by omega), Bool.false_or]
  have h1 := marks_nil h (by omega)
  rw [k] at h1
  change g.marks.length = 0 ↔ ¬ Live0 (wrF m l i) at h1
  congr 1
  by_cases hl : Live0 (wrF m l i)
  ·have : ¬ g.marks.length = 0 := fun h9 => h1.1 h9 hl
   rw [if_pos hl, if_pos (by simp;omega)]
  ·have : g.marks.length = 0 := h1.2 hl
   rw [if_neg hl, if_neg (fun h9 => by have := of_decide_eq_true h9;omega)]
 ·have h1 := marks_nil h (by omega)
  rw [k] at h1
  have hv : valK t g = setV t g := if_pos (.inr k)
  have hb : setB t g = (g.put && !g.drop && decide (g.marks.length = 0)) := if_neg (show ¬ t.kind = 2 by omega)
  rw [hd.three k, hv, setV, hb, h.drop, Bool.not_false, Bool.and_true]
  have h2 : g.put = true ↔ ∃ w ∈ wrF m l i, w.2.1 = 0 := by
   rw [h.put]
   constructor
   ·rintro ⟨_, e, he, u, h3, h4⟩
    exact ⟨(e, u), wr_mem.2 ⟨he, h3⟩, h4⟩
   ·rintro ⟨w, hw, h3⟩
    obtain ⟨w1, w2⟩ := wr_mem.1 hw
    exact ⟨k, w.1, w1, w.2, w2, h3⟩
  congr 1
  by_cases hl : In1 (wrF m l i)
  ·have h3 : g.put = true := h2.2 hl.1
   have h4 : g.marks.length = 0 := h1.2 hl.2
   rw [if_pos hl, if_pos (by simp [h3, h4])]
  ·rw [if_neg hl, if_neg fun h9 => hl ?_]
   rw [Bool.and_eq_true, decide_eq_true_eq] at h9
   exact ⟨h2.1 h9.1, h1.1 h9.2⟩
 ·have hr : isReg t.kind := .inl k
  have hb : bK t.kind = 2 := by rw [k];rfl
  have hv : valK t g = if g.marks.length = 0 then [iniT t] else srtD (g.marks.map MkS.val) := if_neg (show ¬ (t.kind = 2 ∨ t.kind = 3) by omega)
  rw [hv]
  rcases h.four k with ⟨h1, h2⟩|⟨x, h1, h2, h3⟩
  ·rw [h1, if_pos (by rfl)]
   rcases hd.four k with ⟨_, h4⟩|⟨w, hw, h4, _⟩
   ·exact h4
   ·exact absurd (asg_wr.2 ⟨w, hw, by rw [hb];exact h4, rfl⟩) (h2 _)
  ·rw [h1, if_neg (by simp), List.map_cons, List.map_nil, srtD_one]
   obtain ⟨v, hv, v1, rfl⟩ := asg_wr.1 h2
   rcases hd.four k with ⟨h4, _⟩|⟨w, hw, h4, h5, h6⟩
   ·exact absurd (by rw [← hb];exact v1) (h4 v hv)
   ·have g1 := h3 _ (asg_wr.2 ⟨w, hw, by rw [hb];exact h4, rfl⟩)
    have g2 := h6 v hv (by rw [← hb];exact v1)
    obtain ⟨a1, a2⟩ := wr_mem.1 hw
    obtain ⟨b1, b2⟩ := wr_mem.1 hv
    have he : v.1 = w.1 := by
     refine same_tr hc b1 a1 ?_ ?_ <;> (unfold LtK mkE at g1;unfold LtT at g2;simp only at g1;omega)
    have hu : v.2 = w.2 := by rw [he, a2] at b2;exact (Option.some.inj b2).symm
    rw [h5, mkE, if_pos hr, hu]
 ·have hr : isReg t.kind := .inr k
  have hb : bK t.kind = 2 := by rw [k];rfl
  have hkk : kK t.kind = 2 := by rw [k];rfl
  have hv : valK t g = if g.marks.length = 0 then [iniT t] else srtD (g.marks.map MkS.val) := if_neg (show ¬ (t.kind = 2 ∨ t.kind = 3) by omega)
  rw [hv, hd.five k]
  have hmem : ∀ x, x ∈ vals5 (wrF m l i) ↔ x ∈ g.marks.map MkS.val := fun x => by
   unfold vals5
   rw [List.mem_map, List.mem_map]
   constructor
   ·rintro ⟨w, hw, rfl⟩
    obtain ⟨w1, w2⟩ := List.mem_filter.1 hw
    have w2 := of_decide_eq_true w2
    exact ⟨mkE t w.1 w.2, (h.liv (by omega) _).2 (liv_wr.2 ⟨w, w1, by rw [hb];exact w2.1, rfl, by rw [hkk];exact w2.2⟩), by rw [mkE, if_pos hr]⟩
   ·rintro ⟨y, hy, rfl⟩
    obtain ⟨w, hw, h1, rfl, h2⟩ := liv_wr.1 ((h.liv (by omega) y).1 hy)
    exact ⟨w, List.mem_filter.2 ⟨hw, decide_eq_true ⟨by rw [← hb];exact h1, by rw [← hkk];exact h2⟩⟩, by rw [mkE, if_pos hr]⟩
  by_cases h0 : g.marks.length = 0
  ·have : vals5 (wrF m l i) = [] := List.eq_nil_iff_forall_not_mem.2 fun x hx => by
    have := (hmem x).1 hx
    rw [List.eq_nil_of_length_eq_zero h0] at this
    cases this
   rw [if_pos this, if_pos h0]
  ·have : ¬ vals5 (wrF m l i) = [] := fun h9 => by
    obtain ⟨x, hx⟩ := get_of (l := g.marks) (i := 0) (by omega)
    have := (hmem x.val).2 (List.mem_map.2 ⟨x, List.mem_of_getElem? hx, rfl⟩)
    rw [h9] at this
    cases this
   rw [if_neg this, if_neg h0, srtD_set hmem]
end Go.Proofs.YtmllihbhphnolaaGreat
namespace Go.Proofs.YtmllihbhphnolaaGreat
open Go Go.CF
set_option maxRecDepth 20000
theorem upd_seq_p (l : List UpS) : CallP Tryz.prog 211 [.sl 3 l updC] (.fn 260 [.ad [.sl 3 l updC] 0]) := by
 refine CallA.of pg ord211 Tryz.func211 rfl Tryz.ntmps211 Tryz.results211 rfl fun h0 G0 O0 => ?_
 (repeat' (first|(show CA _ _ (Code.region 1 _ _) _ _;apply Stopped.out)|refine Sp.h ?_|refine Lk.r rfl ?_|refine Rf.mk rfl ?_|(refine All.mk ?_;intro _)|fail));any_goals apply Stopped.mk
 rename_i b
 refine CA.freezeB 1 rfl (by repeat constructor) ?_
 repeat' (first|refine Sp.h ?_|refine Lk.r rfl ?_|refine Rf.mk rfl ?_|(apply Nm.r;focus repeat constructor)|fail)
 exact Fin.p rfl rfl
def wrC (w : WrS) : List AV := evC w.1 ++ updC w.2
instance {e : EvS} {a b c : Int} : Inv wrC [iv e.rep, iv e.num, iv e.time, ints e.past, iv e.kind, iv e.action, iv e.gk, iv e.gi, iv e.ge, iv e.ga, iv e.to, iv e.place, iv e.serial, it a, it b, it c] (e, (a, b, c)) := ⟨rfl⟩
theorem updF_none {us : List UpS} {c : Int} (h : ∀ (i : Nat) (u : UpS), us.reverse[i]? = some u → u.2.1 ≠ c) : updF us c = none := by
 unfold updF
 refine List.find?_eq_none.2 fun u hu => ?_
 obtain ⟨i, hi⟩ := List.getElem?_of_mem hu
 simpa using h i u hi
theorem updF_some {us : List UpS} {c : Int} {i : Nat} {u : UpS} (hu : us.reverse[i]? = some u) (hc : u.2.1 = c) (h : ∀ (j : Nat) (v : UpS), j < i → us.reverse[j]? = some v → v.2.1 ≠ c) : updF us c = some u := by
 unfold updF
 have hs : us.reverse = us.reverse.take i ++ u :: us.reverse.drop (i + 1) := by
  obtain ⟨hl, e⟩ := List.getElem?_eq_some_iff.1 hu
  rw [← e, List.getElem_cons_drop, List.take_append_drop]
 rw [hs, List.find?_append, List.find?_eq_none.2 fun v hv => ?_]
 ·simp [hc]
 ·obtain ⟨j, hj⟩ := List.getElem?_of_mem hv
  have hji : j < i := by
   have := (List.getElem?_eq_some_iff.1 hj).1
   simp at this;omega
  rw [List.getElem?_take, if_pos hji] at hj
  simpa using h j v hji hj
theorem wr_snoc {m : ModS} {l : List EvS} {n i : Nat} {e : EvS} (he : l[i]? = some e) : wrF m (l.take (i + 1)) n = wrF m (l.take i) n ++ ((updE m e n).map fun u => (e, u)).toList := by
 unfold wrF
 rw [List.take_add_one, he, List.filterMap_append]
 cases h : updE m e n <;> simp [h]
theorem wr_len (m : ModS) (l : List EvS) (n : Nat) : (wrF m l n).length ≤ l.length := List.length_filterMap_le _ _
def ActOK (m : ModS) (l : List EvS) : Prop := ∀ e ∈ l, e.kind = 0 → 0 ≤ e.action ∧ e.action < m.acts.length
set_option maxHeartbeats 4000000 in
theorem writes_p (m : ModS) (l : List EvS) (n : Nat) (hl : l.length ≤ 1000) (hv : ActOK m l) : CallO Tryz.prog 138 [mdl m, evs l, it (n : Nat)] 266 16 (wrF m l n) wrC := by
 refine CallA.of pg ord138 Tryz.func138 rfl Tryz.ntmps138 Tryz.results138 rfl fun h0 G0 O0 => ?_
 (repeat' (first|(show CA _ _ (Code.block 0 _) _ _;apply Stopped.out)|refine Sp.h ?_|refine Lk.r rfl ?_|refine Rf.mk rfl ?_|(refine Im.mk ?_;intro _)|(refine All.mk ?_;intro _)|(apply Nm.r;focus repeat constructor)|fail));any_goals apply Stopped.mk
 rename_i b3 b5 b7 hl9
 refine CA.nilCell (b := b7) (i := 0) (by repeat constructor) rfl 266 16 wrC fun v0 => ?_
 refine Sp.h ?_
 refine CA.loop (fun x : Nat × Value => ⟨[(3, pm b3), (5, pm b5), (7, pm b7), (12, evs l), (13, it (l.length : Nat)), (14, it (x.1 : Nat))],
  [arrR x.2 266 16 (wrF m (l.take x.1) n) wrC, blkR b7 211 [.ow x.2], blkR b5 3 [it (n : Nat)], blkR b3 30 (modC m)]⟩)
  (fun x => x.1 ≤ l.length) (fun x => l.length - x.1) (0, v0) ⟨by repeat first|trivial|refine ⟨rfl,?_⟩,by repeat first|exact .nil|refine .cons (by repeat constructor) ?_⟩ (Nat.zero_le _) ?_
 rintro ⟨i, v⟩ hi
 simp only at hi
 by_cases hin : i < l.length
 ·obtain ⟨e, he⟩ := get_of hin
  by_cases hk : e.kind = 0
  ·obtain ⟨ha0, ha1⟩ := hv e (List.mem_of_getElem? he) hk
   obtain ⟨a, ha⟩ := get_of (l := m.acts) (i := e.action.toNat) (by omega)
   obtain ⟨q, hq⟩ : ∃ q : Nat, e.action = q := ⟨e.action.toNat, by omega⟩
   rw [hq, Int.toNat_natCast] at ha
   repeat' (first|refine Sp.h ?_|refine Lk.r rfl ?_|refine Rf.mk rfl ?_|(apply Bd.t;(focus first|assumption|omega|rfl))|(refine All.mk ?_;intro _)|(apply TkB.r;(focus repeat constructor))|(apply Ix.q;(focus exact rfl);(focus assumption))|(apply Ix.r;(focus assumption);(focus omega))|refine Ch.l ⟨rfl, rfl⟩ ?_|(apply SetAsk.r;(focus (repeat (first|exact SetAs.z|(apply SetAs.c;(focus (repeat first|assumption|constructor)))))))|(apply Nm.r;focus repeat constructor)|(apply Cl.p (upd_seq_p _);(focus repeat' (first|exact Lend.nil|apply Lend.keep|fail))))
   rename_i b9
   refine CA.range (xs := a.eff.updates.zipIdx.reverse.map fun p => [it (p.2 : Nat), .agg (updC p.1)]) rfl rfl (upd_it _) (fun x hx => by
    obtain ⟨p, _, rfl⟩ := List.mem_map.1 hx;rfl) rfl
    (fun j o' => (∀ (r : Nat) (u : UpS), r < j → a.eff.updates.reverse[r]? = some u → u.2.1 ≠ n) ∧ o' = [blkR b9 37 (evC e), arrR v 266 16 (wrF m (l.take i) n) wrC, blkR b7 211 [.ow v], blkR b5 3 [it (n : Nat)], blkR b3 30 (modC m)])
    (fun x o' => x = .exit 2 ∧ ∃ v' u, updF a.eff.updates n = some u ∧ o' = [arrR v' 266 16 (wrF m (l.take i) n ++ [(e, u)]) wrC, blkR b7 211 [.ow v'], blkR b5 3 [it (n : Nat)], blkR b3 30 (modC m)])
    ⟨fun r u hr => by omega, rfl⟩ ?_ ?_ ?_ ?_ ?_
   ·rintro j x o' hx ⟨hno, rfl⟩ h0' G0' O0' h0g
    rw [List.getElem?_map, Option.map_eq_some_iff] at hx
    obtain ⟨⟨⟨u1, u2, u3⟩, k⟩, hp, rfl⟩ := hx
    have hu : a.eff.updates.reverse[j]? = some (u1, u2, u3) := by
     have h1 := congrArg (Option.map Prod.fst) hp
     rw [← List.getElem?_map, List.map_reverse, List.zipIdx_map_fst] at h1
     exact h1
    repeat' (first|refine Sp.h ?_|refine Lk.r rfl ?_|refine Rf.mk rfl ?_|(refine All.mk ?_;intro _)|(apply TkB.r;(focus repeat constructor))|(apply SetAsk.r;(focus (repeat (first|exact SetAs.z|(apply SetAs.c;(focus (repeat first|assumption|constructor)))))))|(apply Nm.r;focus repeat constructor)|fail)
    apply PA.brk h0g rfl
    have hwl := wr_len m (l.take i) n
    have hwl2 : (l.take i).length ≤ l.length := List.length_take_le' _ _
    by_cases hc : u2 = (n : Int)
    ·repeat' (first|refine Sp.h ?_|refine Lk.r rfl ?_|refine Rf.mk rfl ?_|(apply Bd.t;(focus first|assumption|omega|rfl))|(apply Om.mk;(focus first|omega|(simp <;> omega)))|(refine All.mk ?_;intro _)|(apply TkA.r;(focus repeat constructor))|(apply TkB.r;(focus repeat constructor))|refine Ce.r ?_|refine Ch.l ⟨rfl, rfl⟩ ?_|(apply SetAk.r;(focus (repeat first|assumption|constructor)))|(apply Fk.r;(focus (repeat (first|exact FillA.nil|(apply FillA.agg;(focus rfl);(focus rfl);(focus (repeat (first|exact SetAs.z|(apply SetAs.c;(focus (repeat first|assumption|constructor)))))))|(apply FillA.one;(focus rfl);(focus infer_instance);(focus (repeat first|assumption|constructor)))))))|refine Rf.mk ⟨rfl, rfl⟩ ?_|refine Rf.mk ⟨rfl, rfl, rfl⟩ ?_|(apply Mp.lit;(focus repeat (first|exact MpL.nil|(apply MpL.cons;(focus rfl))|(apply MpL.inv;(focus repeat constructor);(focus infer_instance)))))|fail)
     rename_i v' 
     refine PA.rd [arrR v' 266 16 (wrF m (l.take i) n ++ [(e, (u1, u2, u3))]) wrC, blkR b7 211 [.ow v'], blkR b5 3 [it (n : Nat)], blkR b3 30 (modC m)] (by (repeat first|exact .nil|refine .cons (by repeat constructor) ?_)) ⟨rfl, v', _, updF_some hu hc fun r u hr h9 => hno r u hr h9, rfl⟩
    ·repeat' (first|refine Sp.h ?_|refine Lk.r rfl ?_|refine Rf.mk rfl ?_|(apply Bd.f;(focus first|assumption|omega|exact Bool.false_ne_true))|(apply TkB.r;(focus repeat constructor))|fail)
     refine PA.rd [blkR b9 37 (evC e), arrR v 266 16 (wrF m (l.take i) n) wrC, blkR b7 211 [.ow v], blkR b5 3 [it (n : Nat)], blkR b3 30 (modC m)] (by (repeat first|exact .nil|refine .cons (by repeat constructor) ?_)) ⟨fun r u hr h9 => ?_, rfl⟩
     rcases Nat.lt_succ_iff_lt_or_eq.1 hr with hr|rfl
     ·exact hno r u hr h9
     ·rw [hu] at h9;cases h9;exact hc
   ·rintro o' ⟨hno, rfl⟩
    have hn : updF a.eff.updates n = none := updF_none fun r u hu => hno r u (by
     have := (List.getElem?_eq_some_iff.1 hu).1
     simpa using this) hu
    have hu9 : updE m e n = none := by rw [updE, if_pos hk, usF, hq, Int.toNat_natCast, ha];exact hn
    have hs := wr_snoc (m := m) (n := n) he
    rw [hu9, Option.map_none, Option.toList_none, List.append_nil] at hs
    repeat' (first|refine Sp.h ?_|refine Lk.r rfl ?_|refine Rf.mk rfl ?_|(apply Ov.n;(focus first|omega|(simp <;> omega)))|fail)
    refine PA.lp (i + 1, v) ⟨by (repeat first|exact trivial|refine ⟨rfl, ?_⟩), ?_⟩ ⟨hin, by simp only;omega⟩
    simp only [hs]
    (repeat first|exact .nil|refine .cons (by repeat constructor) ?_)
   ·rintro o' ⟨h, _⟩;cases h
   ·rintro r o' ⟨h, v', u, hu, rfl⟩
    cases h
    have hu9 : updE m e n = some u := by rw [updE, if_pos hk, usF, hq, Int.toNat_natCast, ha];exact hu
    have hs := wr_snoc (m := m) (n := n) he
    rw [hu9] at hs
    repeat' (first|refine Sp.h ?_|refine Lk.r rfl ?_|refine Rf.mk rfl ?_|(apply Ov.n;(focus first|omega|(simp <;> omega)))|fail)
    refine PA.lp (i + 1, v') ⟨by (repeat first|exact trivial|refine ⟨rfl, ?_⟩), ?_⟩ ⟨hin, by simp only;omega⟩
    simp only [hs]
    (repeat first|exact .nil|refine .cons (by repeat constructor) ?_)
   ·rintro r o' ⟨h, _⟩;cases h
  ·have hu9 : updE m e n = none := if_neg hk
   have hs := wr_snoc (m := m) (n := n) he
   rw [hu9, Option.map_none, Option.toList_none, List.append_nil] at hs
   repeat' (first|refine Sp.h ?_|refine Lk.r rfl ?_|refine Rf.mk rfl ?_|(apply Bd.t;(focus first|assumption|omega|rfl))|(apply Bd.f;(focus first|assumption|omega|exact Bool.false_ne_true))|(refine All.mk ?_;intro _)|(apply TkB.r;(focus repeat constructor))|(apply Ix.q;(focus exact rfl);(focus assumption))|refine Ch.l ⟨rfl, rfl⟩ ?_|(apply SetAsk.r;(focus (repeat (first|exact SetAs.z|(apply SetAs.c;(focus (repeat first|assumption|constructor)))))))|(apply Nm.r;focus repeat constructor)|(apply Ov.n;(focus first|omega|(simp <;> omega)))|fail)
   refine PA.lp (i + 1, v) ⟨by (repeat first|exact trivial|refine ⟨rfl, ?_⟩), ?_⟩ ⟨hin, by simp only;omega⟩
   simp only [hs]
   (repeat first|exact .nil|refine .cons (by repeat constructor) ?_)
 ·have : i = l.length := by omega
  subst this
  simp only [List.take_length]
  repeat' (first|refine Sp.h ?_|refine Lk.r rfl ?_|refine Rf.mk rfl ?_|(apply Bd.f;(focus first|assumption|omega|exact Bool.false_ne_true))|(apply TkB.r;(focus repeat constructor))|(apply Nm.r;focus repeat constructor)|fail)
  exact ⟨_, _, .one (.same (.nil (by (repeat first|exact .nil|refine .cons (by repeat constructor) ?_)))), _, rfl, rfl⟩
end Go.Proofs.YtmllihbhphnolaaGreat
namespace Go.CF
open Go
def rawR {α : Type} (sz : Nat) (L : List (List Value)) (l : List α) (f : α → List AV) : Res :=
 ⟨fun h O G => (∀ b, ¬ O b) ∧ Rows h G sz L l f, fun x ⟨ho, r⟩ => ⟨ho, r.stp (x.mono fun _ => .inr)⟩, fun x ⟨ho, r⟩ => ⟨ho, r.mono x⟩, fun ⟨ho, _⟩ b hb => absurd hb (ho b)⟩
section
variable {Γ : Cx} {k : List KI} {e : EA} {o : List Res}
theorem CA.toRows {α : Type} {y : Code} {v : Value} {T sz : Nat} {l : List α} {f : α → List AV} {rest : List Res} (tk : Take o (arrR v T sz l f) rest)
  (h : ∀ L : List (List Value), L.length = l.length → CA Γ k y e (arrR v T sz L valR :: rawR sz L l f :: rest)) : CA Γ k y e o := by
 refine ⟨fun env hh G Os cn => ?_⟩
 obtain ⟨O, Os', cn2⟩ := cn.take tk
 obtain ⟨⟨ho, rows, hw, hr⟩, hrest⟩ := cn2.hp.own
 have hv : RowsV sz rows := ⟨hr.sz, fun r hm u hu => by
  obtain ⟨j, hj⟩ := List.getElem?_of_mem hm
  obtain ⟨x, hx⟩ : ∃ x, l[j]? = some x := ⟨_, List.getElem?_eq_getElem (by rw [← hr.len];exact (List.getElem?_eq_some_iff.1 hj).1)⟩
  exact (hr.row j r x hj hx).one u hu⟩
 have hp : HpOK Γ.h0 Γ.G0 Γ.O0 (arrR v T sz rows valR :: rawR sz rows l f :: rest) hh G (O :: (fun _ => False) :: Os') := by
  refine ⟨⟨⟨ho, rows, by rw [hr.len];exact hw, hv.rows hh G⟩, ⟨fun _ h => h, hr⟩, hrest⟩, cn2.hp.g, cn2.hp.g0, fun X hX b hb => ?_, ?_, cn2.hp.fp⟩
  ·rcases List.mem_cons.1 hX with rfl|hX
   ·exact cn2.hp.o X (by simp) b hb
   ·rcases List.mem_cons.1 hX with rfl|hX
    ·exact hb.elim
    ·exact cn2.hp.o X (by simp [hX]) b hb
  ·obtain ⟨d1, d2⟩ := List.pairwise_cons.1 cn2.hp.d
   refine List.pairwise_cons.2 ⟨fun B hB b hb hb2 => ?_, List.pairwise_cons.2 ⟨fun B hB b hb _ => hb, d2⟩⟩
   rcases List.mem_cons.1 hB with rfl|hB
   ·exact hb2
   ·exact d1 B hB b hb hb2
 exact (h rows hr.len).h env hh G _ ⟨hp, cn2.env, cn2.nf⟩
theorem CA.ofRows {α : Type} {y : Code} {v : Value} {T sz : Nat} {L L' : List (List Value)} {l : List α} {f : α → List AV} {rest rest2 : List Res} (tk : Take o (arrR v T sz L' valR) rest) (tk2 : Take rest (rawR sz L l f) rest2)
  (Z : List (List Value × α)) (hZ : ∀ z ∈ Z, ∃ i : Nat, L[i]? = some z.1 ∧ l[i]? = some z.2) (h1 : Z.map (·.1) = L') (h : CA Γ k y e (arrR v T sz (Z.map (·.2)) f :: rest2)) : CA Γ k y e o := by
 refine ⟨fun env hh G Os cn => ?_⟩
 obtain ⟨O, Os', cn2⟩ := cn.take tk
 obtain ⟨⟨ho, rows, hw, hr⟩, hrest⟩ := cn2.hp.own
 obtain ⟨X, Os2, r1, r2, r3⟩ := tk2.own hrest
 have e9 := rows_val hr
 subst e9
 have hlen : rows.length = Z.length := by rw [← h1, List.length_map]
 have hrow : Rows hh G sz rows (Z.map (·.2)) f := by
  refine ⟨by rw [hlen, List.length_map], fun i r x e1 e2 => ?_, hr.sz⟩
  rw [← h1, List.getElem?_map] at e1
  rw [List.getElem?_map] at e2
  cases hz : Z[i]? with
  | none => rw [hz] at e1;cases e1
  | some z =>
   rw [hz] at e1 e2
   cases e1;cases e2
   obtain ⟨q, q1, q2⟩ := hZ z (List.mem_of_getElem? hz)
   exact r1.2.row q _ _ q1 q2
 have c4 : HpOK Γ.h0 Γ.G0 Γ.O0 (arrR v T sz rows valR :: rawR sz L l f :: rest2) hh G (O :: X :: Os2) := cn2.hp.perm ⟨cn2.hp.own.1, r1, r2⟩ (List.Perm.cons _ r3)
 have c5 : HpOK Γ.h0 Γ.G0 Γ.O0 (rawR sz L l f :: arrR v T sz rows valR :: rest2) hh G (X :: O :: Os2) := c4.perm ⟨r1, cn2.hp.own.1, r2⟩ (List.Perm.swap _ _ _)
 have c6 := c5.drop
 exact h.h env hh G (O :: Os2) ⟨c6.perm ⟨⟨ho, rows, by rw [List.length_map, ← hlen];exact hw, hrow⟩, r2⟩ (List.Perm.refl _), cn2.env, cn2.nf⟩
end
end Go.CF
