/- Part 8 of the ground of this proof: what its texts say of the model, the program and the plain data; conditions: those that are named. -/
import Derived.Test.YtmjllbjfkafhdaaGreatDoorCards
import Derived.Lib.AppendZeros
import Derived.Laws.Externs
import Derived.Test.YtmjllbjfkafhdaaGreatDoorP07
namespace Go.Proofs.YtmjllbjfkafhdaaGreatDoor
open Go Go.CF Go.ChangeShapes Go.WideShapes Go.ChangeAt Go.RowKit
set_option maxRecDepth 100000
theorem snapshotErrors_k2 : false = Tryz.pinned.checked.prog.looks [] := by kernel_rfl
end Go.Proofs.YtmjllbjfkafhdaaGreatDoor
namespace Go.Proofs.YtmjllbjfkafhdaaGreatDoor
open Go Go.CF Go.ChangeShapes Go.WideShapes Go.ChangeAt Go.RowKit
set_option maxRecDepth 100000
theorem snapshotErrors_k3 : Tryz.pinned.checked.prog.mainIs = some (true, "f0c9131c7071487561838c5fd10ad184cd06373d64f188cad1dcc86a924dd170".toList) := by kernel_rfl
theorem snapshotErrors_k4 : Rows.snapshotErrorsRow.wfByText (OpenSpec.ofChange Rows.snapshotErrorsSpec) = true := by kernel_rfl
end Go.Proofs.YtmjllbjfkafhdaaGreatDoor
namespace Go.Proofs.YtmjllbjfkafhdaaGreatDoor
open Go Go.CF Go.ChangeShapes Go.WideShapes Go.ChangeAt Go.RowKit
set_option maxRecDepth 100000
theorem snapshotErrors_card (hs : Rows.SnapshotErrorsSaid) : Rows.SnapshotErrorsCardSaid :=
 Claim7.holds_tied_plain_at .later [] [.listed, .data] true (true, "f0c9131c7071487561838c5fd10ad184cd06373d64f188cad1dcc86a924dd170") false
  hs (fun _ h => by cases h) snapshotErrors_k4 (fun _ h => by cases h) snapshotErrors_row_tie rfl ⟨rfl, rfl⟩ snapshotErrors_k3 rfl
  (fun f fn hf hfn => by
   obtain rfl : f = 7 := Option.some.inj ((show Tryz.prog.funcNamed "confluent/confluentlaw53.SnapshotErrors" = some 7 by kernel_rfl).symm.trans hf) |>.symm
   obtain rfl : fn = Tryz.f7 := (Option.some.inj (Tryz.func7.symm.trans hfn)).symm
   exact ⟨snapshotErrors_k2, fun j t ht => by
    rw [Tryz.params7] at ht
    have hm : t ∈ [5, 5] := by simpa using Array.mem_of_getElem? ht
    have hall : ([5, 5].all fun u => !Tryz.prog.wantsStandIn u) = true := by kernel_rfl
    exact (show Tryz.prog.wantsStandIn t = false by simpa using List.all_eq_true.1 hall t hm)⟩)
  snapshotErrors_k1
end Go.Proofs.YtmjllbjfkafhdaaGreatDoor
namespace Go.Proofs.YtmjllbjfkafhdaaGreatDoor
open Go Go.CF
set_option maxRecDepth 20000
abbrev sv (s : ByteArray) : AV := .val (.string s)
def isWhite (x : Int) : Prop := x = 9 ∨ x = 10 ∨ x = 13 ∨ x = 32
noncomputable instance (x : Int) : Decidable (isWhite x) := Classical.propDecidable _
def isLetter (x : Int) : Prop := 97 ≤ x ∧ x ≤ 122
noncomputable instance (x : Int) : Decidable (isLetter x) := Classical.propDecidable _
def isDigit (x : Int) : Prop := 48 ≤ x ∧ x ≤ 57
noncomputable instance (x : Int) : Decidable (isDigit x) := Classical.propDecidable _
inductive Comm (s : ByteArray) : Nat → Nat → Prop where
 | stop {a : Nat} : ¬ (a < s.size ∧ byteAt s a ≠ 10) → Comm s a a
 | step {a j : Nat} : a < s.size → byteAt s a ≠ 10 → Comm s (a + 1) j → Comm s a j
inductive Skip (s : ByteArray) : Nat → Nat → Prop where
 | stop {a : Nat} : ¬ (a < s.size ∧ (isWhite (byteAt s a) ∨ byteAt s a = 35)) → Skip s a a
 | white {a j : Nat} : a < s.size → byteAt s a ≠ 35 → isWhite (byteAt s a) → Skip s (a + 1) j → Skip s a j
 | com {a b j : Nat} : a < s.size → byteAt s a = 35 → Comm s a b → Skip s b j → Skip s a j
theorem Comm.le {s : ByteArray} {a j : Nat} (h : Comm s a j) (ha : a ≤ s.size) : a ≤ j ∧ j ≤ s.size := by
 induction h with
 | stop => exact ⟨Nat.le_refl _, ha⟩
 | step h1 _ _ ih => have := ih h1;omega
theorem Comm.lt {s : ByteArray} {a j : Nat} (h : Comm s a j) (ha : a < s.size) (hb : byteAt s a = 35) : a < j ∧ j ≤ s.size := by
 cases h with
 | stop h => exact absurd ⟨ha, by omega⟩ h
 | step h1 _ h3 => have := h3.le h1;omega
theorem Comm.ex (s : ByteArray) : ∀ (n a : Nat), s.size - a = n → ∃ j, Comm s a j := by
 intro n
 induction n with
 | zero => exact fun a h => ⟨a, .stop (by omega)⟩
 | succ n ih =>
  intro a h
  by_cases h1 : byteAt s a = 10
  ·exact ⟨a, .stop (by omega)⟩
  ·obtain ⟨j, hj⟩ := ih (a + 1) (by omega)
   exact ⟨j, .step (by omega) h1 hj⟩
theorem Skip.le {s : ByteArray} {a j : Nat} (h : Skip s a j) : a ≤ s.size → a ≤ j ∧ j ≤ s.size ∧ (j < s.size → ¬ isWhite (byteAt s j) ∧ byteAt s j ≠ 35) := by
 induction h with
 | stop h => exact fun ha => ⟨Nat.le_refl _, ha, fun hl => ⟨fun h9 => h ⟨hl, .inl h9⟩, fun h9 => h ⟨hl, .inr h9⟩⟩⟩
 | white h1 _ _ _ ih => intro ha;have := ih h1;exact ⟨by omega, this.2⟩
 | com h1 h2 h3 _ ih => intro ha;have h9 := h3.lt h1 h2;have := ih h9.2;exact ⟨by omega, this.2⟩
theorem Skip.ex (s : ByteArray) (n : Nat) : ∀ a : Nat, s.size - a = n → ∃ j, Skip s a j := by
 induction n using Nat.strongRecOn with
 | ind n ih =>
  intro a h
  by_cases hc : a < s.size ∧ (isWhite (byteAt s a) ∨ byteAt s a = 35)
  ·by_cases h2 : byteAt s a = 35
   ·obtain ⟨b, hb⟩ := Comm.ex s _ a rfl
    have h9 := hb.lt hc.1 h2
    obtain ⟨j, hj⟩ := ih (s.size - b) (by omega) b rfl
    exact ⟨j, .com hc.1 h2 hb hj⟩
   ·obtain ⟨j, hj⟩ := ih (s.size - (a + 1)) (by omega) (a + 1) rfl
    exact ⟨j, .white hc.1 h2 (hc.2.resolve_right h2) hj⟩
  ·exact ⟨a, .stop hc⟩
def strC (q : ByteArray) : List AV := [sv q]
def HasS (l : List ByteArray) (s : ByteArray) : Prop := ∃ q ∈ l, q.toList = s.toList
noncomputable instance (l : List ByteArray) (s : ByteArray) : Decidable (HasS l s) := Classical.propDecidable _
def kwL : List ByteArray := [⟨#[115, 111, 114, 116]⟩, ⟨#[114, 101, 108, 97, 116, 105, 111, 110]⟩, ⟨#[99, 111, 117, 110, 116, 101, 114]⟩, ⟨#[115, 101, 116]⟩, ⟨#[114, 101, 103, 105, 115, 116, 101, 114]⟩, ⟨#[105, 110, 118, 97, 114, 105, 97, 110, 116]⟩, ⟨#[111, 112, 101, 114, 97, 116, 105, 111, 110]⟩, ⟨#[107, 101, 121]⟩, ⟨#[114, 101, 102, 101, 114, 101, 110, 99, 101]⟩, ⟨#[116, 111]⟩, ⟨#[99, 111, 117, 110, 116]⟩, ⟨#[97, 99, 121, 99, 108, 105, 99]⟩, ⟨#[97, 108, 108]⟩, ⟨#[115, 117, 109]⟩, ⟨#[105, 110]⟩, ⟨#[97, 100, 100, 119, 105, 110, 115]⟩, ⟨#[114, 101, 109, 111, 118, 101, 119, 105, 110, 115]⟩, ⟨#[108, 97, 115, 116]⟩, ⟨#[109, 117, 108, 116, 105]⟩, ⟨#[104, 105, 100, 101]⟩, ⟨#[111, 114, 100, 101, 114, 101, 100]⟩, ⟨#[114, 101, 113, 117, 105, 114, 101]⟩, ⟨#[104, 111, 108, 100]⟩, ⟨#[105, 110, 115, 101, 114, 116]⟩, ⟨#[100, 101, 108, 101, 116, 101]⟩, ⟨#[97, 100, 100]⟩, ⟨#[102, 114, 111, 109]⟩, ⟨#[112, 117, 116]⟩, ⟨#[100, 114, 111, 112]⟩, ⟨#[97, 115, 115, 105, 103, 110]⟩, ⟨#[102, 111, 114]⟩, ⟨#[119, 104, 101, 114, 101]⟩, ⟨#[97, 110, 100]⟩, ⟨#[111, 114]⟩, ⟨#[110, 111, 116]⟩]
/-! ### Symbols -/
theorem find_at {α : Type} {p : α → Bool} : ∀ {l : List α} {i : Nat} {x : α}, l[i]? = some x → p x = true → (∀ j y, j < i → l[j]? = some y → p y = false) → l.find? p = some x := by
 intro l
 induction l with
 | nil => intro i x h;cases h
 | cons a l ih =>
  intro i x h1 h2 h3
  cases i with
  | zero => cases h1;simp [h2]
  | succ i =>
   have h4 := h3 0 a (by omega) rfl
   rw [List.find?_cons, h4]
   exact ih h1 h2 fun j y hj hy => h3 (j + 1) y (by omega) hy
/-! ### Tokens -/
def isWord (x : Int) : Prop := isLetter x ∨ isDigit x ∨ x = 95
/-! ### Scanning -/
abbrev CallB (P : Program) (f : FuncId) (args : List AV) : Prop := CallA P f args [] fun r own => ∃ b, r = .val (.bool b) ∧ own = []
end Go.Proofs.YtmjllbjfkafhdaaGreatDoor
namespace Go.Proofs.YtmjllbjfkafhdaaGreatDoor
open Go Go.CF
set_option maxRecDepth 20000
structure TblS where
 name : ByteArray
 kind : Int
 cols : List Int
 lo : Int
 hi : Int
 first : Int
abbrev it (x : Int) : AV := .val (.int .i64 x)
def tblC (t : TblS) : List AV := [sv t.name, it t.kind, ints t.cols, it t.lo, it t.hi, it t.first]
abbrev tbls (l : List TblS) : AV := .sl 6 l tblC
def Sound (sizes : List Int) : Prop := ∀ x ∈ sizes, 1 ≤ x ∧ x ≤ 6
noncomputable instance (sizes : List Int) : Decidable (Sound sizes) := Classical.propDecidable _
def ColOK (sizes cols : List Int) : Prop := cols.length ≤ 3 ∧ Sound sizes ∧ ∀ x ∈ cols, 0 ≤ x ∧ x < sizes.length
noncomputable instance (sizes cols : List Int) : Decidable (ColOK sizes cols) := Classical.propDecidable _
def prodF (sizes cols : List Int) : Int := cols.foldl (fun n c => n * (sizes[c.toNat]?.getD 1)) 1
noncomputable def numF (sizes cols : List Int) : Int := if ColOK sizes cols then prodF sizes cols else 0
theorem prod_succ {sizes cols : List Int} {i : Nat} {x y : Int} (hx : cols[i]? = some x) (hy : sizes[x.toNat]? = some y) : prodF sizes (cols.take (i + 1)) = prodF sizes (cols.take i) * y := by
 unfold prodF;rw [List.take_add_one, hx, List.foldl_append];simp [hy]
theorem prod_le {sizes : List Int} (hs : Sound sizes) : ∀ cols : List Int, 1 ≤ prodF sizes cols ∧ prodF sizes cols ≤ 6 ^ cols.length := by
 have key : ∀ (cols : List Int) (n : Int) (k : Nat), 1 ≤ n → n ≤ 6 ^ k → 1 ≤ cols.foldl (fun n c => n * (sizes[c.toNat]?.getD 1)) n ∧ cols.foldl (fun n c => n * (sizes[c.toNat]?.getD 1)) n ≤ 6 ^ (k + cols.length) := by
  intro cols
  induction cols with
  | nil => exact fun n k h1 h2 => ⟨h1, h2⟩
  | cons c cols ih =>
   intro n k h1 h2
   have hy : 1 ≤ sizes[c.toNat]?.getD 1 ∧ sizes[c.toNat]?.getD 1 ≤ 6 := by
    cases h : sizes[c.toNat]? with
    | none => simp
    | some y => exact hs y (List.mem_of_getElem? h)
   have := ih (n * (sizes[c.toNat]?.getD 1)) (k + 1) (by have := Int.mul_le_mul h1 hy.1 (by omega) (by omega);omega) (by rw [Int.pow_succ];exact Int.mul_le_mul h2 hy.2 (by omega) (Int.le_trans (by omega) h2))
   rw [List.length_cons, show k + (cols.length + 1) = k + 1 + cols.length by omega]
   exact this
 intro cols
 have := key cols 1 0 (by omega) (by simp)
 rwa [Nat.zero_add] at this
end Go.Proofs.YtmjllbjfkafhdaaGreatDoor
namespace Go.Proofs.YtmjllbjfkafhdaaGreatDoor
open Go Go.CF
set_option maxRecDepth 20000
def TabOK (sizes : List Int) (t : TblS) : Prop := ColOK sizes t.cols ∧ 0 ≤ t.kind ∧ t.kind ≤ 5 ∧ -9999 ≤ t.lo ∧ t.lo ≤ t.hi ∧ t.hi ≤ 9999
def LayOK (sizes : List Int) (l : List TblS) : Prop := sizes.length ≤ 4 ∧ Sound sizes ∧ l.length ≤ 12 ∧ ∀ t ∈ l, TabOK sizes t
def isStrict (k : Int) : Prop := k = 0 ∨ k = 1
noncomputable instance (k : Int) : Decidable (isStrict k) := Classical.propDecidable _
theorem num_le (sizes cols : List Int) : 0 ≤ numF sizes cols ∧ numF sizes cols ≤ 216 := by
 unfold numF
 split
 ·rename_i h
  have hp := prod_le h.2.1 cols
  have h216 : ∀ n : Nat, n ≤ 3 → (6 : Int) ^ n ≤ 216 := fun n hn => by match n, hn with | 0, _ => decide | 1, _ => decide | 2, _ => decide | 3, _ => decide
  have := h216 _ h.1
  omega
 ·omega
end Go.Proofs.YtmjllbjfkafhdaaGreatDoor
namespace Go.Proofs.YtmjllbjfkafhdaaGreatDoor
open Go Go.CF
set_option maxRecDepth 20000
def rngC (p : Int × Int) : List AV := [it p.1, it p.2]
def RgOK (rs : List (Int × Int)) : Prop := ∀ p ∈ rs, -9999 ≤ p.1 ∧ p.1 ≤ p.2 ∧ p.2 ≤ 9999
end Go.Proofs.YtmjllbjfkafhdaaGreatDoor
namespace Go.Proofs.YtmjllbjfkafhdaaGreatDoor
open Go Go.CF
set_option maxRecDepth 20000
structure RowS where
 terms : List (Int × Int)
 bound : Int
abbrev terms (l : List (Int × Int)) : AV := .sl 2 l rngC
def rowC (r : RowS) : List AV := [terms r.terms, it r.bound]
end Go.Proofs.YtmjllbjfkafhdaaGreatDoor
namespace Go.Proofs.YtmjllbjfkafhdaaGreatDoor
open Go Go.CF
set_option maxRecDepth 20000
structure CnsS where
 kind : Int
 family : Int
 row : RowS
 first : Int
 size : Int
def cnsC (c : CnsS) : List AV := [it c.kind, it c.family, terms c.row.terms, it c.row.bound, it c.first, it c.size]
structure OpS where
 name : ByteArray
 ordered : Bool
 sorts : List Int
def opC (o : OpS) : List AV := [sv o.name, .val (.bool o.ordered), ints o.sorts]
def updC : Int × Int × Int → List AV
 | (a, b, c) => [it a, it b, it c]
structure EffS where
 delta : List (Int × Int)
 hold : List RowS
 updates : List (Int × Int × Int)
def effC (e : EffS) : List AV := [terms e.delta, .sl 2 e.hold rowC, .sl 3 e.updates updC]
structure ActS where
 op : Int
 args : List Int
 eff : EffS
def actC (a : ActS) : List AV := [it a.op, ints a.args, terms a.eff.delta, .sl 2 a.eff.hold rowC, .sl 3 a.eff.updates updC]
structure ModS where
 sorts : List Int
 tables : List TblS
 families : List ByteArray
 cons : List CnsS
 ops : List OpS
 acts : List ActS
 hides : List (Int × Int × Int)
def modC (m : ModS) : List AV := [ints m.sorts, tbls m.tables, .sl 1 m.families strC, .sl 6 m.cons cnsC, .sl 3 m.ops opC, .sl 5 m.acts actC, .sl 3 m.hides updC]
abbrev mdl (m : ModS) : AV := .agg (modC m)
end Go.Proofs.YtmjllbjfkafhdaaGreatDoor
namespace Go.Proofs.YtmjllbjfkafhdaaGreatDoor
open Go Go.CF
set_option maxRecDepth 20000
theorem col_get {sizes cols : List Int} (h : ColOK sizes cols) {i : Nat} {x : Int} (hx : cols[i]? = some x) : ∃ j : Nat, x = (j : Int) ∧ ∃ y, sizes[j]? = some y ∧ 1 ≤ y ∧ y ≤ 6 := by
 obtain ⟨h1, h2⟩ := h.2.2 x (List.mem_of_getElem? hx)
 obtain ⟨j, rfl⟩ := Int.eq_ofNat_of_zero_le h1
 obtain ⟨y, hy⟩ := get_of (l := sizes) (i := j) (by omega)
 exact ⟨j, rfl, y, hy, h.2.1 y (List.mem_of_getElem? hy)⟩
def isSet13 (k : Int) : Prop := k = 2 ∨ k = 3
end Go.Proofs.YtmjllbjfkafhdaaGreatDoor
namespace Go.Proofs.YtmjllbjfkafhdaaGreatDoor
open Go Go.CF
set_option maxRecDepth 20000
abbrev pm (b : Nat) : AV := .val (.pointer (some ⟨b, 0, none⟩))
abbrev mR (b : Nat) (m : ModS) : Res := blkR b 30 (modC m)
end Go.Proofs.YtmjllbjfkafhdaaGreatDoor
namespace Go.Proofs.YtmjllbjfkafhdaaGreatDoor
open Go Go.CF
set_option maxRecDepth 20000
noncomputable instance (a b : EvS) : Decidable (a = b) := Classical.propDecidable _
set_option maxHeartbeats 2000000 in
theorem equalE_p (a b : EvS) : CallP Tryz.prog 243 [evA' a, evA' b] (.val (.bool (decide (a = b)))) := by
 refine CallA.of pg ord243 Tryz.func243 rfl Tryz.ntmps243 Tryz.results243 rfl fun h0 G0 O0 => ?_
 repeat' (first|refine Sp.h ?_|refine Lk.r rfl ?_|refine Rf.mk rfl ?_|refine xA ?_|refine xB ?_|(refine Bd.mk ?_ ?_ <;> intro _)|refine All.mk fun _=>?_|refine xT ?_|refine xN ?_|fail)
 refine xQ (equal_p _ _) ?_
 repeat' (first|refine Sp.h ?_|refine Lk.r rfl ?_|refine Rf.mk rfl ?_|refine xA ?_|refine xB ?_|(refine Bd.mk ?_ ?_ <;> intro _)|refine xT ?_|refine Ch.r ?_|refine xN ?_|refine xK ?_|(apply Kf.mk;(focus kernel_rfl))|fail)
 all_goals refine Fin.p rfl (vb ?_)
 ·refine decide_eq_decide.2 ⟨fun h => ?_, fun h => by rw [h]⟩
  cases a;cases b;simp_all
 all_goals exact (decide_eq_false (fun h => by subst h;first|contradiction|simp_all)).symm
def GiveZ (e : EvS) : Prop := e.gk = 0 ∧ e.gi = 0 ∧ e.ge = 0 ∧ e.ga = 0 ∧ e.to = 0
def Sub0 (e : EvS) : Prop := Btw e.action 0 255 ∧ Btw e.place 0 1024 ∧ Btw e.serial 1 1048576
def Sub1 (e : EvS) : Prop := Btw e.gk 0 1 ∧ Btw e.ge 0 (if e.gk = 1 then 5 else 0) ∧ Btw e.gi 0 1023 ∧ Btw e.ga 1 1000000 ∧ Btw e.to 0 (e.past.length - 1) ∧ e.to ≠ e.rep
def Sub2 (e : EvS) : Prop := Btw e.place 1 1024 ∧ Btw e.serial 1 1048576
noncomputable instance (e : EvS) : Decidable (Sub0 e) := Classical.propDecidable _
noncomputable instance (e : EvS) : Decidable (Sub1 e) := Classical.propDecidable _
noncomputable instance (e : EvS) : Decidable (Sub2 e) := Classical.propDecidable _
def KindOK (e : EvS) : Prop := (e.kind = 0 ∧ Sub0 e ∧ GiveZ e) ∨ (e.kind = 1 ∧ Sub1 e ∧ e.action = 0 ∧ e.place = 0 ∧ e.serial = 0) ∨ (e.kind = 2 ∧ Sub2 e ∧ e.action = 0 ∧ GiveZ e)
def FormedE (e : EvS) : Prop := ValC e.past ∧ 0 ≤ e.rep ∧ (∃ x, e.past[e.rep.toNat]? = some x ∧ e.num = x + 1) ∧ e.num ≤ 1024 ∧ Btw e.time 1 1073741824 ∧ KindOK e
noncomputable instance (e : EvS) : Decidable (FormedE e) := Classical.propDecidable _
theorem forms1_a (e : EvS) (b : Nat) (c0 c1 c2 c3 c4 c5 c6 c7 c8 c9 c10 c11 c12 : AV) :
  CallA Tryz.prog 266 [.val (.pointer (some ⟨b, 0, none⟩)), .ad (evC e) 0] [blkR b 66 [c0, c1, c2, c3, c4, c5, c6, c7, c8, c9, c10, c11, c12]] fun r own => r = .val (.bool (decide (Sub0 e))) ∧ own = [blkR b 66 [c0, c1, c2, c3, c4, iv 0, c6, c7, c8, c9, c10, iv 0, iv 0]] := by
 refine CallA.of pg ord266 Tryz.func266 rfl Tryz.ntmps266 Tryz.results266 rfl fun h0 G0 O0 => ?_
 repeat' (first|refine Sp.h ?_|refine Lk.r rfl ?_|refine Rf.mk rfl ?_|refine xA ?_|refine xB ?_|(refine Bd.mk ?_ ?_ <;> intro _)|refine xT ?_|refine xV ?_|refine xN ?_|(apply Cl.p (between_p _ _ _);focus repeat' constructor))
 all_goals refine ⟨_, _, .one (.same (.z)), vb ?_, rfl⟩
 ·exact decide_eq_decide.2 ⟨fun h => ⟨by assumption, by assumption, h⟩, fun h => h.2.2⟩
 all_goals exact (decide_eq_false (fun h => by unfold Sub0 at h;simp_all)).symm
set_option maxHeartbeats 2000000 in
theorem forms2_a (e : EvS) (b : Nat) (c0 c1 c2 c3 c4 c5 c6 c7 c8 c9 c10 c11 c12 : AV) (hl : e.past.length ≤ 9223372036854775807) :
  CallA Tryz.prog 267 [.val (.pointer (some ⟨b, 0, none⟩)), .ad (evC e) 0] [blkR b 66 [c0, c1, c2, c3, c4, c5, c6, c7, c8, c9, c10, c11, c12]] fun r own => r = .val (.bool (decide (Sub1 e))) ∧ own = [blkR b 66 [c0, c1, c2, c3, c4, c5, iv 0, iv 0, iv 0, iv 0, iv 0, c11, c12]] := by
 refine CallA.of pg ord267 Tryz.func267 rfl Tryz.ntmps267 Tryz.results267 rfl fun h0 G0 O0 => ?_
 repeat' (first|refine Sp.h ?_|refine Lk.r rfl ?_|refine Rf.mk rfl ?_|refine xA ?_|refine xB ?_|(refine Bd.mk ?_ ?_ <;> intro _)|refine Im.mk fun _=>?_|refine All.mk fun _=>?_|refine xT ?_|refine Ch.r ?_|refine xV ?_|(apply SetAsk.r;focus repeat' constructor)|(apply Fk.r;focus repeat' first|infer_instance|constructor)|refine xN ?_|refine xO ?_|(apply Cl.p (between_p _ _ _);focus repeat' constructor))
 all_goals refine ⟨_, _, .one (.same (.z)), vb ?_, rfl⟩
 all_goals first
  | exact (decide_eq_false (by unfold Sub1;simp_all)).symm
  | exact decide_eq_decide.2 (by unfold Sub1;simp_all)
theorem forms3_a (e : EvS) (b : Nat) (c0 c1 c2 c3 c4 c5 c6 c7 c8 c9 c10 c11 c12 : AV) :
  CallA Tryz.prog 268 [.val (.pointer (some ⟨b, 0, none⟩)), .ad (evC e) 0] [blkR b 66 [c0, c1, c2, c3, c4, c5, c6, c7, c8, c9, c10, c11, c12]] fun r own => r = .val (.bool (decide (Sub2 e))) ∧ own = [blkR b 66 [c0, c1, c2, c3, c4, c5, c6, c7, c8, c9, c10, iv 0, iv 0]] := by
 refine CallA.of pg ord268 Tryz.func268 rfl Tryz.ntmps268 Tryz.results268 rfl fun h0 G0 O0 => ?_
 repeat' (first|refine Sp.h ?_|refine Lk.r rfl ?_|refine Rf.mk rfl ?_|refine xA ?_|refine xB ?_|(refine Bd.mk ?_ ?_ <;> intro _)|refine xT ?_|refine xV ?_|refine xN ?_|(apply Cl.p (between_p _ _ _);focus repeat' constructor))
 all_goals refine ⟨_, _, .one (.same (.z)), vb ?_, rfl⟩
 ·exact decide_eq_decide.2 ⟨fun h => ⟨by assumption, h⟩, fun h => h.2⟩
 all_goals exact (decide_eq_false (fun h => by unfold Sub2 at h;simp_all)).symm
abbrev fnE (f : FuncId) (e : EvS) : AV := .fn f [.ad (evC e) 0]
abbrev formM (e : EvS) : List (List Int × AV) := [([0], fnE 266 e), ([1], fnE 267 e), ([2], fnE 268 e)]
theorem forms_a (e : EvS) : CallA Tryz.prog 242 [evA' e] [] fun r own => ∃ M, r = .val (.map (some M)) ∧ own = [mapR Tryz.prog M 3 (formM e) fun a : AV => a] := by
 refine CallA.of pg ord242 Tryz.func242 rfl Tryz.ntmps242 Tryz.results242 rfl fun h0 G0 O0 => ?_
 repeat' (first|refine Sp.h ?_|refine Lk.r rfl ?_|refine Rf.mk rfl ?_|refine All.mk fun _=>?_|fail)
 refine MkM.r (fun a : AV => a) ?_
 refine ⟨fun M => ?_⟩
 apply OA.freezeB 1
 focus rfl
 focus (repeat constructor)
 repeat' (first|refine Sp.h ?_|refine Lk.r rfl ?_|refine Rf.mk rfl ?_|refine xN ?_|(apply Kf.mk;(focus kernel_rfl))|refine xM ?_|refine UpV.r rfl ?_|fail)
 exact ⟨_, _, .one (.same (.z)), _, rfl, rfl⟩
def evZ : EvS := ⟨0, 0, 0, [], 0, 0, 0, 0, 0, 0, 0, 0, 0⟩
theorem kind0 {e : EvS} (h : e.kind = 0) : KindOK e ↔ Sub0 e ∧ GiveZ e := by unfold KindOK;rw [h];simp
theorem kind1 {e : EvS} (h : e.kind = 1) : KindOK e ↔ Sub1 e ∧ e.action = 0 ∧ e.place = 0 ∧ e.serial = 0 := by unfold KindOK;rw [h];simp
theorem kind2 {e : EvS} (h : e.kind = 2) : KindOK e ↔ Sub2 e ∧ e.action = 0 ∧ GiveZ e := by unfold KindOK;rw [h];simp
set_option maxHeartbeats 4000000 in
theorem formed_p (e : EvS) : CallP Tryz.prog 204 [evA' e] (.val (.bool (decide (FormedE e)))) := by
 refine CallA.of pg ord204 Tryz.func204 rfl Tryz.ntmps204 Tryz.results204 rfl fun h0 G0 O0 => ?_
 by_cases hr : 0 ≤ e.rep ∧ e.rep < e.past.length
 ·obtain ⟨x, hx⟩ := get_of (l := e.past) (i := e.rep.toNat) (by omega)
  by_cases hv : ValC e.past
  ·have hx2 := hv.1 x (List.mem_of_getElem? hx)
   unfold rngK at hx2
   have hv2 := hv.2
   repeat' (first|refine Sp.h ?_|refine Lk.r rfl ?_|refine Rf.mk rfl ?_|refine xA ?_|refine xB ?_|(refine Bd.mk ?_ ?_ <;> intro _)|refine OpK.r rfl ?_|refine Im.mk fun _=>?_|refine All.mk fun _=>?_|refine xT ?_|(apply Ix.r;(focus assumption);(focus omega))|refine Ch.l ⟨rfl, rfl⟩ ?_|refine xN ?_|refine xD ?_|refine xO ?_|(apply Cl.p (between_p _ _ _);focus repeat' constructor)|(apply Cl.p (validC_p _);focus repeat' constructor))
   all_goals try exact Fin.p rfl (vb (decide_eq_false (fun ⟨h1, h2, ⟨y, hy, h3⟩, h4, h5, h6⟩ => by rw [hx] at hy;cases hy;first|contradiction|(unfold Btw at *;omega))).symm)
   rename_i hb1 hb2 hb3 hb4
   have hF : FormedE e ↔ KindOK e := ⟨fun h => h.2.2.2.2.2, fun h => ⟨hv, hr.1, ⟨x, hx, hb2⟩, by omega, hb4, h⟩⟩
   refine xW (forms_a e) ?_
   rintro _ _ ⟨M, rfl, rfl⟩
   by_cases hk0 : e.kind = 0
   ·have hl : lookL (formM e) [e.kind] = some (fnE 266 e) := by rw [hk0];rfl
    repeat' (first|refine Sp.h ?_|refine Lk.r rfl ?_|refine Rf.mk rfl ?_|refine xA ?_|refine OpK.r rfl ?_|refine All.mk fun _=>?_|refine xT ?_|refine Ch.r ?_|(apply SetAsk.r;focus repeat' constructor)|(apply Fk.r;focus repeat' first|infer_instance|constructor)|refine xN ?_|(apply Kf.mk;(focus kernel_rfl))|refine xM ?_|(apply LkM.s;(focus first|assumption|rfl))|fail)
    refine xW (forms1_a e _ _ _ _ _ _ _ _ _ _ _ _ _ _) ?_
    rintro _ _ ⟨rfl, rfl⟩
    repeat' (first|refine Sp.h ?_|refine Lk.r rfl ?_|refine Rf.mk rfl ?_|refine xA ?_|refine xB ?_|(refine Bd.mk ?_ ?_ <;> intro _)|refine xT ?_|refine Ch.l ⟨rfl, rfl⟩ ?_|(apply Fk.r;focus repeat' first|infer_instance|constructor)|refine xN ?_|fail)
    ·(apply Cl.p (equalE_p { evZ with gk := e.gk, gi := e.gi, ge := e.ge, ga := e.ga, to := e.to } evZ);(focus repeat' (first|exact Lend.nil|apply Lend.keep|apply Lend.nils|apply Lend.agg|fail)))
     repeat' (first|refine Sp.h ?_|refine Lk.r rfl ?_|refine xA ?_|refine xN ?_|fail)
     exact Fin.p rfl (vb (decide_eq_decide.2 ((by simp [evZ, GiveZ, *] : _ ↔ Sub0 e ∧ GiveZ e).trans ((kind0 hk0).symm.trans hF.symm))))
    ·exact Fin.p rfl (vb (decide_eq_false (fun h => by have := (kind0 hk0).1 (hF.1 h);simp_all)).symm)
   by_cases hk1 : e.kind = 1
   ·have hl : lookL (formM e) [e.kind] = some (fnE 267 e) := by rw [hk1];rfl
    have hpl : e.past.length ≤ 9223372036854775807 := by omega
    repeat' (first|refine Sp.h ?_|refine Lk.r rfl ?_|refine Rf.mk rfl ?_|refine xA ?_|refine OpK.r rfl ?_|refine All.mk fun _=>?_|refine xT ?_|refine Ch.r ?_|(apply SetAsk.r;focus repeat' constructor)|(apply Fk.r;focus repeat' first|infer_instance|constructor)|refine xN ?_|(apply Kf.mk;(focus kernel_rfl))|refine xM ?_|(apply LkM.s;(focus first|assumption|rfl))|fail)
    refine xW (forms2_a e _ _ _ _ _ _ _ _ _ _ _ _ _ _ hpl) ?_
    rintro _ _ ⟨rfl, rfl⟩
    repeat' (first|refine Sp.h ?_|refine Lk.r rfl ?_|refine Rf.mk rfl ?_|refine xA ?_|refine xB ?_|(refine Bd.mk ?_ ?_ <;> intro _)|refine xT ?_|refine Ch.l ⟨rfl, rfl⟩ ?_|(apply Fk.r;focus repeat' first|infer_instance|constructor)|refine xN ?_|fail)
    ·(apply Cl.p (equalE_p { evZ with action := e.action, place := e.place, serial := e.serial } evZ);(focus repeat' (first|exact Lend.nil|apply Lend.keep|apply Lend.nils|apply Lend.agg|fail)))
     repeat' (first|refine Sp.h ?_|refine Lk.r rfl ?_|refine xA ?_|refine xN ?_|fail)
     exact Fin.p rfl (vb (decide_eq_decide.2 ((by simp [evZ, *] : _ ↔ Sub1 e ∧ e.action = 0 ∧ e.place = 0 ∧ e.serial = 0).trans ((kind1 hk1).symm.trans hF.symm))))
    ·exact Fin.p rfl (vb (decide_eq_false (fun h => by have := (kind1 hk1).1 (hF.1 h);simp_all)).symm)
   by_cases hk2 : e.kind = 2
   ·have hl : lookL (formM e) [e.kind] = some (fnE 268 e) := by rw [hk2];rfl
    repeat' (first|refine Sp.h ?_|refine Lk.r rfl ?_|refine Rf.mk rfl ?_|refine xA ?_|refine OpK.r rfl ?_|refine All.mk fun _=>?_|refine xT ?_|refine Ch.r ?_|(apply SetAsk.r;focus repeat' constructor)|(apply Fk.r;focus repeat' first|infer_instance|constructor)|refine xN ?_|(apply Kf.mk;(focus kernel_rfl))|refine xM ?_|(apply LkM.s;(focus first|assumption|rfl))|fail)
    refine xW (forms3_a e _ _ _ _ _ _ _ _ _ _ _ _ _ _) ?_
    rintro _ _ ⟨rfl, rfl⟩
    repeat' (first|refine Sp.h ?_|refine Lk.r rfl ?_|refine Rf.mk rfl ?_|refine xA ?_|refine xB ?_|(refine Bd.mk ?_ ?_ <;> intro _)|refine xT ?_|refine Ch.l ⟨rfl, rfl⟩ ?_|(apply Fk.r;focus repeat' first|infer_instance|constructor)|refine xN ?_|fail)
    ·(apply Cl.p (equalE_p { evZ with action := e.action, gk := e.gk, gi := e.gi, ge := e.ge, ga := e.ga, to := e.to } evZ);(focus repeat' (first|exact Lend.nil|apply Lend.keep|apply Lend.nils|apply Lend.agg|fail)))
     repeat' (first|refine Sp.h ?_|refine Lk.r rfl ?_|refine xA ?_|refine xN ?_|fail)
     exact Fin.p rfl (vb (decide_eq_decide.2 ((by simp [evZ, GiveZ, *] : _ ↔ Sub2 e ∧ e.action = 0 ∧ GiveZ e).trans ((kind2 hk2).symm.trans hF.symm))))
    ·exact Fin.p rfl (vb (decide_eq_false (fun h => by have := (kind2 hk2).1 (hF.1 h);simp_all)).symm)
   ·have hl : lookL (formM e) [e.kind] = none := by
     simp only [lookL, formM, List.find?_cons, List.find?_nil]
     simp [Ne.symm hk0, Ne.symm hk1, Ne.symm hk2]
    repeat' (first|refine Sp.h ?_|refine Lk.r rfl ?_|refine Rf.mk rfl ?_|refine xB ?_|refine OpK.r rfl ?_|refine xN ?_|(apply Kf.mk;(focus kernel_rfl))|refine xM ?_|apply Zx.one|(apply LkM.n;(focus first|assumption|rfl))|fail)
    exact Fin.p rfl (vb (decide_eq_false (fun h => by have := hF.1 h;unfold KindOK at this;omega)).symm)
  ·repeat' (first|refine Sp.h ?_|refine Lk.r rfl ?_|refine Rf.mk rfl ?_|refine xB ?_|refine OpK.r rfl ?_|refine All.mk fun _=>?_|refine xT ?_|refine xN ?_|refine xD ?_|(apply Cl.p (validC_p _);focus repeat' constructor))
   exact Fin.p rfl (vb (decide_eq_false (fun h => hv h.1)).symm)
 ·have hnb : ¬ Btw e.rep 0 (e.past.length - 1) := by unfold Btw;omega
  by_cases hv : ValC e.past
  ·have hv2 := hv.2
   repeat' (first|refine Sp.h ?_|refine Lk.r rfl ?_|refine Rf.mk rfl ?_|refine xA ?_|refine xB ?_|refine OpK.r rfl ?_|refine Im.mk fun _=>?_|refine All.mk fun _=>?_|refine xT ?_|refine xN ?_|refine xD ?_|refine xO ?_|(apply Cl.p (between_p _ _ _);focus repeat' constructor)|(apply Cl.p (validC_p _);focus repeat' constructor))
   all_goals exact Fin.p rfl (vb (decide_eq_false (fun ⟨h1, h2, ⟨y, hy, h3⟩, _⟩ => by have := (List.getElem?_eq_some_iff.1 hy).1;omega)).symm)
  ·repeat' (first|refine Sp.h ?_|refine Lk.r rfl ?_|refine Rf.mk rfl ?_|refine xB ?_|refine OpK.r rfl ?_|refine All.mk fun _=>?_|refine xT ?_|refine xN ?_|refine xD ?_|(apply Cl.p (validC_p _);focus repeat' constructor))
   exact Fin.p rfl (vb (decide_eq_false (fun h => hv h.1)).symm)
end Go.Proofs.YtmjllbjfkafhdaaGreatDoor
namespace Go.Proofs.YtmjllbjfkafhdaaGreatDoor
open Go Go.CF
set_option maxRecDepth 20000
def Cont (a b : List Int) : Prop := AlikeC [a, b] ∧ Ins a b
def nm (e : EvS) : List Int := [e.rep, e.num]
def Dep (l : List EvS) (e : EvS) (r : Nat) (n : Int) : Prop := ∀ i : Int, 1 ≤ i → i ≤ n → ∃ x ∈ l, x.rep = r ∧ x.num = i ∧ Cont x.past e.past ∧ x.time < e.time
def Uniq (l : List EvS) : Prop := ∀ (i j : Nat) (a b : EvS), l[i]? = some a → l[j]? = some b → nm a = nm b → i = j
def n0 (l : List EvS) : Nat := (l[0]?.map fun e => e.past.length).getD 0
def ClosedE (l : List EvS) : Prop := l.length ≤ 1024 ∧ Uniq l ∧ (∀ e ∈ l, FormedE e ∧ e.past.length = n0 l) ∧ ∀ e ∈ l, ∀ (r : Nat) (n : Int), e.past[r]? = some n → Dep l e r n
theorem Uniq.eq {l : List EvS} (h : Uniq l) {a b : EvS} (ha : a ∈ l) (hb : b ∈ l) (he : nm a = nm b) : a = b := by
 obtain ⟨i, hi⟩ := List.getElem?_of_mem ha
 obtain ⟨j, hj⟩ := List.getElem?_of_mem hb
 have := h i j a b hi hj he
 subst this
 rw [hi] at hj;cases hj;rfl
end Go.Proofs.YtmjllbjfkafhdaaGreatDoor
namespace Go.Proofs.YtmjllbjfkafhdaaGreatDoor
open Go Go.CF
set_option maxRecDepth 20000
theorem filter_succ {α : Type} {l : List α} {p : α → Bool} {i : Nat} {x : α} (h : l[i]? = some x) : (l.take (i + 1)).filter p = (l.take i).filter p ++ if p x then [x] else [] := by
 rw [List.take_add_one, h]
 cases hp : p x <;> simp [hp]
noncomputable def clkE (n : Nat) (l : List EvS) : List Int := l.foldl (fun c e => c.set e.rep.toNat (max (c[e.rep.toNat]?.getD 0) e.num)) (List.replicate n 0)
theorem clkE_len (n : Nat) (l : List EvS) : (clkE n l).length = n := by
 unfold clkE
 have : ∀ (l : List EvS) (c : List Int), (l.foldl (fun c e => c.set e.rep.toNat (max (c[e.rep.toNat]?.getD 0) e.num)) c).length = c.length := by
  intro l
  induction l with
  | nil => intro c;rfl
  | cons a l ih => intro c;rw [List.foldl_cons, ih, List.length_set]
 rw [this, List.length_replicate]
end Go.Proofs.YtmjllbjfkafhdaaGreatDoor
namespace Go.Proofs.YtmjllbjfkafhdaaGreatDoor
open Go Go.CF
set_option maxRecDepth 20000
theorem prod_fit {sizes cols : List Int} (h : ColOK sizes cols) (i : Nat) : 1 ≤ prodF sizes (cols.take i) ∧ prodF sizes (cols.take i) ≤ 216 := by
 have hp := prod_le h.2.1 (cols.take i)
 have h216 : ∀ n : Nat, n ≤ 3 → (6 : Int) ^ n ≤ 216 := fun n hn => by match n, hn with | 0, _ => decide | 1, _ => decide | 2, _ => decide | 3, _ => decide
 have := h216 _ (show (cols.take i).length ≤ 3 by rw [List.length_take];have := h.1;omega)
 omega
theorem prod_fit' {sizes cols : List Int} (h : ColOK sizes cols) : 1 ≤ prodF sizes cols ∧ prodF sizes cols ≤ 216 := by
 have := prod_fit h cols.length
 rwa [List.take_length] at this
end Go.Proofs.YtmjllbjfkafhdaaGreatDoor
namespace Go.Proofs.YtmjllbjfkafhdaaGreatDoor
open Go Go.CF
set_option maxRecDepth 20000
def szF (m : ModS) (t : TblS) : Nat := (prodF m.sorts t.cols).toNat
noncomputable def strN (m : ModS) (l : List TblS) : Nat := (l.map fun t => if isStrict t.kind then szF m t else 0).sum
noncomputable def mrgL (m : ModS) (l : List TblS) : List TblS := l.flatMap fun t => if isStrict t.kind then [] else List.replicate (szF m t) t
noncomputable def strF (m : ModS) : Nat := strN m m.tables
noncomputable def mrgF (m : ModS) : List TblS := mrgL m m.tables
theorem sz_fit {m : ModS} {t : TblS} (h : ColOK m.sorts t.cols) : (prodF m.sorts t.cols = (szF m t : Nat)) ∧ szF m t ≤ 216 ∧ 1 ≤ szF m t := by
 have := prod_fit' h
 unfold szF
 omega
theorem strN_succ {m : ModS} {l : List TblS} {i : Nat} {t : TblS} (h : l[i]? = some t) : strN m (l.take (i + 1)) = strN m (l.take i) + if isStrict t.kind then szF m t else 0 := by
 unfold strN;rw [List.take_add_one, h];simp
theorem mrgL_succ {m : ModS} {l : List TblS} {i : Nat} {t : TblS} (h : l[i]? = some t) : mrgL m (l.take (i + 1)) = mrgL m (l.take i) ++ if isStrict t.kind then [] else List.replicate (szF m t) t := by
 unfold mrgL;rw [List.take_add_one, h];simp
theorem strN_le {m : ModS} (hm : LayOK m.sorts m.tables) : ∀ i, i ≤ m.tables.length → strN m (m.tables.take i) ≤ 216 * i := by
 intro i
 induction i with
 | zero => simp [strN]
 | succ i ih =>
  intro hi
  obtain ⟨t, ht⟩ := get_of (l := m.tables) (i := i) (by omega)
  have h1 := sz_fit (m := m) (hm.2.2.2 t (List.mem_of_getElem? ht)).1
  have := ih (by omega)
  rw [strN_succ ht]
  split <;> omega
theorem mrgL_le {m : ModS} (hm : LayOK m.sorts m.tables) : ∀ i, i ≤ m.tables.length → (mrgL m (m.tables.take i)).length ≤ 216 * i := by
 intro i
 induction i with
 | zero => simp [mrgL]
 | succ i ih =>
  intro hi
  obtain ⟨t, ht⟩ := get_of (l := m.tables) (i := i) (by omega)
  have h1 := sz_fit (m := m) (hm.2.2.2 t (List.mem_of_getElem? ht)).1
  have := ih (by omega)
  rw [mrgL_succ ht]
  split <;> simp <;> omega
theorem mrgF_le {m : ModS} (hm : LayOK m.sorts m.tables) : (mrgF m).length ≤ 2592 := by
 have := mrgL_le hm m.tables.length (Nat.le_refl _)
 rw [List.take_length] at this
 have := hm.2.2.1
 unfold mrgF
 omega
end Go.Proofs.YtmjllbjfkafhdaaGreatDoor
namespace Go.Proofs.YtmjllbjfkafhdaaGreatDoor
open Go Go.CF
set_option maxRecDepth 20000
def FewV (l : List EvS) : Prop := l.length ≤ 60 ∧ ∀ e ∈ l, e.past.length ≤ 8
structure EffOK (m : ModS) (x : EffS) : Prop where
 dl : x.delta.length ≤ 20
 hl : x.hold.length ≤ 8
 ul : x.updates.length ≤ 20
 d : ∀ p ∈ x.delta, 0 ≤ p.1 ∧ p.1 < (strF m : Nat)
 u : ∀ p ∈ x.updates, 0 ≤ p.2.1 ∧ p.2.1 < ((mrgF m).length : Nat)
structure MOK (m : ModS) : Prop where
 lay : LayOK m.sorts m.tables
 ops : m.ops.length ≤ 8
 acts : m.acts.length ≤ 30
 eff : ∀ a ∈ m.acts, EffOK m a.eff
 str : strF m ≤ 40
 mrg : (mrgF m).length ≤ 20
end Go.Proofs.YtmjllbjfkafhdaaGreatDoor
namespace Go.Proofs.YtmjllbjfkafhdaaGreatDoor
open Go Go.CF
set_option maxRecDepth 20000
theorem cells_o (m : ModS) (hm : LayOK m.sorts m.tables) : CallO Tryz.prog 154 [mdl m] 150 6 (mrgF m) tblC := by
 have hml := hm.2.2.1
 refine CallA.of pg ord154 Tryz.func154 rfl Tryz.ntmps154 Tryz.results154 rfl fun h0 G0 O0 => ?_
 repeat' (first|refine Sp.h ?_|refine Lk.r rfl ?_|refine Rf.mk rfl ?_|refine Im.mk fun _=>?_|refine All.mk fun _=>?_|refine xT ?_|fail)
 rename_i b1 _
 refine CA.nilOwn 3 150 6 tblC rfl fun v => ?_
 refine CA.loop (fun x : Nat × Value => ⟨[(1, pm b1), (3, .ow x.2), (10, tbls m.tables), (11, it (m.tables.length : Nat)), (12, it x.1)], [mR b1 m, arrR x.2 150 6 (mrgL m (m.tables.take x.1)) tblC]⟩) (fun x => x.1 ≤ m.tables.length) (fun x => m.tables.length - x.1) (0, v) xE (Nat.zero_le _) ?_
 rintro ⟨i, v⟩ hi
 simp only at hi
 simp only
 by_cases hin : i < m.tables.length
 ·obtain ⟨t, ht⟩ := get_of hin
  have hc := (hm.2.2.2 t (List.mem_of_getElem? ht)).1
  have h1 := sz_fit (m := m) hc
  have hn := mrgL_le hm i hi
  have hsu := mrgL_succ (m := m) ht
  by_cases hst : isStrict t.kind
  ·rw [if_pos hst, List.append_nil] at hsu
   unfold isStrict at hst
   repeat' (first|refine Sp.h ?_|refine Lk.r rfl ?_|refine Rf.mk rfl ?_|refine xA ?_|refine xB ?_|(refine Bd.mk ?_ ?_ <;> intro _)|refine All.mk fun _=>?_|refine xT ?_|refine xI ?_|refine Ch.l ⟨rfl, rfl⟩ ?_|(apply SetAsk.r;focus repeat' constructor)|refine xN ?_|refine xO ?_|fail)
   all_goals rw [← hsu]
   all_goals exact PA.lp (i + 1, v) xE ⟨hin, by simp only;omega⟩
  ·rw [if_neg hst] at hsu
   unfold isStrict at hst
   repeat' (first|refine Sp.h ?_|refine Lk.r rfl ?_|refine Rf.mk rfl ?_|refine xA ?_|refine xB ?_|refine Im.mk fun _=>?_|refine All.mk fun _=>?_|refine xT ?_|refine xI ?_|refine Ch.l ⟨rfl, rfl⟩ ?_|(apply SetAsk.r;focus repeat' constructor)|refine xN ?_|fail)
   rename_i b5 _
   refine CA.loop (fun k : Nat => ⟨[(1, pm b1), (3, .ow v), (5, pm b5), (6, it (prodF m.sorts (t.cols.take k))), (10, tbls m.tables), (11, it (m.tables.length : Nat)), (12, it i), (25, ints t.cols), (26, it (t.cols.length : Nat)), (27, it k)], [mR b1 m, arrR v 150 6 (mrgL m (m.tables.take i)) tblC, blkR b5 150 (tblC t)]⟩) (fun k => k ≤ t.cols.length) (fun k => t.cols.length - k) 0 xE (Nat.zero_le _) ?_
   intro k hk
   by_cases hkn : k < t.cols.length
   ·obtain ⟨x, hx⟩ := get_of hkn
    obtain ⟨j, rfl, y, hy, hy1, hy2⟩ := col_get hc hx
    have hb := prod_succ hx (show m.sorts[((j : Int)).toNat]? = some y by simpa using hy)
    have hp := prod_fit hc k
    have hp2 := prod_fit hc (k + 1)
    rw [hb] at hp2
    have hj := (List.getElem?_eq_some_iff.1 hy).1
    repeat' (first|refine Sp.h ?_|refine Lk.r rfl ?_|refine Rf.mk rfl ?_|refine xA ?_|refine xP ?_|refine xT ?_|refine xI ?_|refine xO ?_|fail)
    rw [← hb]
    exact PA.lp (k + 1) xE ⟨hkn, by omega⟩
   have hke : k = t.cols.length := by omega
   subst hke
   simp only [List.take_length]
   rw [h1.1]
   repeat' (first|refine Sp.h ?_|refine Lk.r rfl ?_|refine Rf.mk rfl ?_|refine xB ?_|fail)
   refine CA.loop (fun x : Nat × Value => ⟨[(1, pm b1), (3, .ow x.2), (5, pm b5), (10, tbls m.tables), (11, it (m.tables.length : Nat)), (12, it i), (39, it (szF m t : Nat)), (40, it x.1)], [mR b1 m, arrR x.2 150 6 (mrgL m (m.tables.take i) ++ List.replicate x.1 t) tblC, blkR b5 150 (tblC t)]⟩) (fun x => x.1 ≤ szF m t) (fun x => szF m t - x.1) (0, v) ?_ (Nat.zero_le _) ?_
   ·simp only [List.replicate_zero, List.append_nil]
    exact xE
   rintro ⟨q, v⟩ hq
   simp only at hq
   simp only
   by_cases hqn : q < szF m t
   ·repeat' (first|refine Sp.h ?_|refine Lk.r rfl ?_|refine Rf.mk rfl ?_|refine xA ?_|refine xP ?_|refine All.mk fun _=>?_|refine xU ?_|refine xT ?_|refine Ce.r ?_|refine Ch.l ⟨rfl, rfl⟩ ?_|(apply Fk.r;focus repeat' first|infer_instance|constructor)|refine Rf.mk ⟨rfl, rfl⟩ ?_|refine Rf.mk ⟨rfl, rfl, rfl⟩ ?_|(apply Mp.lit;(focus repeat (first|exact MpL.nil|(apply MpL.cons;(focus rfl))|(apply MpL.inv;(focus repeat constructor);(focus infer_instance)))))|refine xO ?_|fail)
    rw [List.append_assoc, show List.replicate q t ++ [t] = List.replicate (q + 1) t from List.replicate_succ'.symm]
    exact PA.lp (q + 1, _) xE ⟨hqn, by simp only;omega⟩
   have hqe : q = szF m t := by omega
   subst hqe
   rw [← hsu]
   repeat' (first|refine Sp.h ?_|refine Lk.r rfl ?_|refine Rf.mk rfl ?_|refine xB ?_|refine xO ?_|fail)
   exact PA.lp (i + 1, v) xE ⟨hin, by simp only;omega⟩
 have hie : i = m.tables.length := by omega
 subst hie
 simp only [List.take_length]
 repeat' (first|refine Sp.h ?_|refine Lk.r rfl ?_|refine Rf.mk rfl ?_|refine xB ?_|refine xN ?_|fail)
 exact ⟨_, _, .one (.same (.z)), _, rfl, rfl⟩
theorem cells_p (m : ModS) (hm : LayOK m.sorts m.tables) : CallP Tryz.prog 154 [mdl m] (tbls (mrgF m)) :=
 CallA.fz (by have := mrgF_le hm;omega) (cells_o m hm)
structure MkS where
 rep : Int
 num : Int
 time : Int
 val : Int
def mkC (x : MkS) : List AV := [it x.rep, it x.num, it x.time, it x.val]
structure MgS where
 put : Bool
 drop : Bool
 marks : List MkS
abbrev bl (b : Bool) : AV := .val (.bool b)
abbrev mks (l : List MkS) : AV := .sl 4 l mkC
def mgC (g : MgS) : List AV := [bl g.put, bl g.drop, mks g.marks]
abbrev mgs (l : List MgS) : AV := .sl 3 l mgC
def isReg (k : Int) : Prop := k = 4 ∨ k = 5
noncomputable instance (k : Int) : Decidable (isReg k) := Classical.propDecidable _
theorem register_p (t : TblS) : CallP Tryz.prog 163 [.agg (tblC t)] (bl (decide (isReg t.kind))) := by
 refine CallA.of pg ord163 Tryz.func163 rfl Tryz.ntmps163 Tryz.results163 rfl fun h0 G0 O0 => ?_
 repeat' (first|refine Sp.h ?_|refine Lk.r rfl ?_|refine Rf.mk rfl ?_|refine xA ?_|refine xB ?_|(refine Bd.mk ?_ ?_ <;> intro _)|refine All.mk fun _=>?_|refine xT ?_|refine xN ?_|fail)
 all_goals refine Fin.p rfl (vb ?_)
 all_goals first
  | exact decide_eq_decide.2 (by unfold isReg;omega)
  | exact (decide_eq_true (by unfold isReg;omega)).symm
theorem dot_p (x : MkS) : CallP Tryz.prog 245 [.agg (mkC x)] (dotC x.rep x.num) := by
 refine CallA.of pg ord245 Tryz.func245 rfl Tryz.ntmps245 Tryz.results245 rfl fun h0 G0 O0 => ?_
 repeat' (first|refine Sp.h ?_|refine Lk.r rfl ?_|refine Rf.mk rfl ?_|refine All.mk fun _=>?_|refine xT ?_|(apply SetAsk.r;focus repeat' constructor)|(apply Fk.r;focus repeat' first|infer_instance|constructor)|refine xN ?_|fail)
 exact Fin.p rfl rfl
noncomputable def lowT (t : TblS) : Int := if isReg t.kind then t.lo else 0
noncomputable def highT (t : TblS) : Int := if isReg t.kind then t.hi else 0
def RightK (t : TblS) (x : MkS) : Prop := (0 ≤ x.rep ∧ x.rep ≤ 4) ∧ (1 ≤ x.num ∧ x.num ≤ 1024) ∧ (1 ≤ x.time ∧ x.time ≤ 1073741824) ∧ lowT t ≤ x.val ∧ x.val ≤ highT t
noncomputable instance (t : TblS) (x : MkS) : Decidable (RightK t x) := Classical.propDecidable _
theorem right_p (t : TblS) (x : MkS) : CallP Tryz.prog 244 [.agg (tblC t), .agg (mkC x)] (bl (decide (RightK t x))) := by
 refine CallA.of pg ord244 Tryz.func244 rfl Tryz.ntmps244 Tryz.results244 rfl fun h0 G0 O0 => ?_
 by_cases hr : isReg t.kind
 ·have hlo : lowT t = t.lo := if_pos hr
  have hhi : highT t = t.hi := if_pos hr
  repeat' (first|refine Sp.h ?_|refine Lk.r rfl ?_|refine Rf.mk rfl ?_|refine xA ?_|refine xB ?_|(refine Bd.mk ?_ ?_ <;> intro _)|refine OpK.r rfl ?_|refine All.mk fun _=>?_|refine xT ?_|refine Ch.l ⟨rfl, rfl⟩ ?_|refine xN ?_|refine xD ?_|(apply Cl.p (register_p _);focus repeat' constructor))
  all_goals refine Fin.p rfl (vb ?_)
  all_goals first
   | exact decide_eq_decide.2 (by unfold RightK;omega)
   | exact (decide_eq_false (by unfold RightK;omega)).symm
 ·have hlo : lowT t = 0 := if_neg hr
  have hhi : highT t = 0 := if_neg hr
  repeat' (first|refine Sp.h ?_|refine Lk.r rfl ?_|refine Rf.mk rfl ?_|refine xA ?_|refine xB ?_|(refine Bd.mk ?_ ?_ <;> intro _)|refine All.mk fun _=>?_|refine xT ?_|refine Ch.l ⟨rfl, rfl⟩ ?_|refine xN ?_|(apply Cl.p (register_p _);focus repeat' constructor))
  all_goals refine Fin.p rfl (vb ?_)
  all_goals first
   | exact decide_eq_decide.2 (by unfold RightK;omega)
   | exact (decide_eq_false (by unfold RightK;omega)).symm
theorem isNaN_p (x : Int) : CallP Tryz.prog 253 [it x] (bl false) := by
 refine CallA.of pg ord253 Tryz.func253 rfl Tryz.ntmps253 Tryz.results253 rfl fun h0 G0 O0 => ?_
 repeat' (first|refine Sp.h ?_|refine Lk.r rfl ?_|refine Rf.mk rfl ?_|refine xN ?_|fail)
 exact Fin.p rfl (vb (by simp))
def cmpI (x y : Int) : Int := if x < y then -1 else if y < x then 1 else 0
theorem compareI_p (x y : Int) : CallP Tryz.prog 226 [it x, it y] (it (cmpI x y)) := by
 refine CallA.of pg ord226 Tryz.func226 rfl Tryz.ntmps226 Tryz.results226 rfl fun h0 G0 O0 => ?_
 repeat' (first|refine Sp.h ?_|refine Lk.r rfl ?_|refine Rf.mk rfl ?_|(refine Bd.mk ?_ ?_ <;> intro _)|refine xN ?_|(apply Cl.p (isNaN_p _);focus repeat' constructor))
 all_goals refine Fin.p rfl ?_
 all_goals unfold cmpI
 all_goals congr 2
 all_goals repeat' split
 all_goals omega
def orI (l : List Int) : Int := (l.find? (fun x => decide (x ≠ 0))).getD 0
theorem orI_p (l : List Int) : CallP Tryz.prog 252 [ints l] (it (orI l)) := by
 refine CallA.of pg ord252 Tryz.func252 rfl Tryz.ntmps252 Tryz.results252 rfl fun h0 G0 O0 => ?_
 repeat' (first|refine Sp.h ?_|refine Lk.r rfl ?_|refine Rf.mk rfl ?_|refine Im.mk fun _=>?_|fail)
 refine CA.loop (fun i : Nat => ⟨[(3, it 0), (6, ints l), (7, it (l.length : Nat)), (8, it i)], []⟩) (fun i => i ≤ l.length ∧ ∀ x ∈ l.take i, x = 0) (fun i => l.length - i) 0 xE ⟨Nat.zero_le _, by simp⟩ ?_
 rintro i ⟨hi, ha⟩
 by_cases hin : i < l.length
 ·obtain ⟨x, hx⟩ := get_of hin
  repeat' (first|refine Sp.h ?_|refine Lk.r rfl ?_|refine Rf.mk rfl ?_|refine xA ?_|(refine Bd.mk ?_ ?_ <;> intro _)|refine xI ?_|refine xN ?_|refine xO ?_|fail)
  ·exact PA.lp (i + 1) xE ⟨⟨hin, all_succ hx ha (by omega)⟩, by omega⟩
  ·rename_i h
   refine Fin.p rfl ?_
   have hf : l.find? (fun x => decide (x ≠ 0)) = some x := find_at hx (by simpa using h) fun j y hj hy => by
    have := ha y (List.mem_of_getElem? (i := j) (by rw [List.getElem?_take, if_pos hj];exact hy))
    simp [this]
   rw [orI, hf];rfl
 have hie : i = l.length := by omega
 subst hie
 rw [List.take_length] at ha
 repeat' (first|refine Sp.h ?_|refine Lk.r rfl ?_|refine Rf.mk rfl ?_|refine xB ?_|refine xN ?_|fail)
 refine Fin.p rfl ?_
 have hf : l.find? (fun x => decide (x ≠ 0)) = none := List.find?_eq_none.2 fun x hx => by simp [ha x hx]
 rw [orI, hf];rfl
def cmpK (a b : MkS) : Int := orI [cmpI a.time b.time, cmpI a.rep b.rep, cmpI a.num b.num]
theorem compareK_p (a b : MkS) : CallP Tryz.prog 246 [.agg (mkC a), .agg (mkC b)] (it (cmpK a b)) := by
 refine CallA.of pg ord246 Tryz.func246 rfl Tryz.ntmps246 Tryz.results246 rfl fun h0 G0 O0 => ?_
 repeat' (first|refine Sp.h ?_|refine Lk.r rfl ?_|refine Rf.mk rfl ?_|refine OpK.r rfl ?_|refine All.mk fun _=>?_|refine xT ?_|(apply Fk.r;focus repeat' first|infer_instance|constructor)|refine Rf.mk ⟨rfl, rfl, rfl⟩ ?_|refine xD ?_|(apply Cl.p (compareI_p _ _);focus repeat' constructor))
 have h := orI_p [cmpI a.time b.time, cmpI a.rep b.rep, cmpI a.num b.num]
 (apply Cl.lend (h);(focus repeat' (first|exact Lend.nil|(apply Lend.lendm;(focus repeat constructor);(focus rfl);(focus first|omega|decide|(simp;omega)|exact Nat.le_of_ble_eq_true rfl))|fail)))
 repeat' (first|refine Sp.h ?_|refine Lk.r rfl ?_|refine OpK.r rfl ?_|refine xN ?_|fail)
 exact Fin.p rfl rfl
def LtK (a b : MkS) : Prop := a.time < b.time ∨ a.time = b.time ∧ (a.rep < b.rep ∨ a.rep = b.rep ∧ a.num < b.num)
noncomputable instance (a b : MkS) : Decidable (LtK a b) := Classical.propDecidable _
theorem cmpK_neg {a b : MkS} : cmpK a b < 0 ↔ LtK a b := by
 unfold cmpK orI LtK cmpI
 by_cases h1 : a.time < b.time
 ·simp [h1]
 by_cases h2 : b.time < a.time
 ·simp [h1, h2];omega
 have h3 : a.time = b.time := by omega
 by_cases h4 : a.rep < b.rep
 ·simp [h3, h4]
 by_cases h5 : b.rep < a.rep
 ·simp [h3, h4, h5];omega
 have h6 : a.rep = b.rep := by omega
 by_cases h7 : a.num < b.num
 ·simp [h3, h6, h7]
 by_cases h8 : b.num < a.num
 ·simp [h3, h6, h7, h8]
 ·simp [h3, h6, h7, h8]
theorem cmpK_pos {a b : MkS} : 0 < cmpK a b ↔ LtK b a := by
 unfold cmpK orI LtK cmpI
 by_cases h1 : a.time < b.time
 ·simp [h1];omega
 by_cases h2 : b.time < a.time
 ·simp [h1, h2]
 have h3 : a.time = b.time := by omega
 by_cases h4 : a.rep < b.rep
 ·simp [h3, h4];omega
 by_cases h5 : b.rep < a.rep
 ·simp [h3, h4, h5]
 have h6 : a.rep = b.rep := by omega
 by_cases h7 : a.num < b.num
 ·simp [h3, h6, h7];omega
 by_cases h8 : b.num < a.num
 ·simp [h3, h6, h7, h8]
 ·simp [h3, h6, h7, h8]
end Go.Proofs.YtmjllbjfkafhdaaGreatDoor
namespace Go.Proofs.YtmjllbjfkafhdaaGreatDoor
open Go Go.CF
set_option maxRecDepth 20000
def Nm (x y : MkS) : Prop := x.rep = y.rep ∧ x.num = y.num
def MksTo (t : TblS) (l : List MkS) (n : Nat) : Prop := ∀ i x, i < n → l[i]? = some x → RightK t x ∧ (∀ j y, j < i → l[j]? = some y → ¬ Nm y x) ∧ (∀ y, 0 < i → l[i - 1]? = some y → ¬ LtK x y)
def GenG (t : TblS) (g : MgS) : Prop := (g.drop = true → t.kind = 3) ∧ ¬ (g.put = true ∧ isReg t.kind) ∧ ¬ (t.kind = 4 ∧ 1 < g.marks.length) ∧ g.marks.length ≤ 1024
def ValG (t : TblS) (g : MgS) : Prop := GenG t g ∧ MksTo t g.marks g.marks.length
noncomputable instance (t : TblS) (g : MgS) : Decidable (ValG t g) := Classical.propDecidable _
def namesL (l : List MkS) : List (List Int × Bool) := l.map fun x => ([x.rep, x.num], true)
def HasNm (l : List MkS) (x : MkS) : Prop := ∃ y ∈ l, Nm y x
noncomputable instance (l : List MkS) (x : MkS) : Decidable (HasNm l x) := Classical.propDecidable _
theorem names_look (l : List MkS) (x : MkS) : lookL (namesL l) [x.rep, x.num] = if HasNm l x then some true else none := by
 induction l with
 | nil => simp [namesL, lookL, HasNm]
 | cons a l ih =>
  simp only [namesL, lookL, List.map_cons, List.find?_cons] at ih ⊢
  by_cases h : Nm a x
  ·rw [if_pos ⟨a, by simp, h⟩]
   simp [h.1, h.2]
  ·have h2 : decide ([a.rep, a.num] = [x.rep, x.num]) = false := by simpa [Nm] using h
   rw [h2]
   rw [ih]
   have e : HasNm l x ↔ HasNm (a :: l) x := by simp [HasNm, h]
   by_cases hh : HasNm l x
   ·rw [if_pos hh, if_pos (e.1 hh)]
   ·rw [if_neg hh, if_neg (fun h9 => hh (e.2 h9))]
theorem names_app {l : List MkS} {i : Nat} {x : MkS} (hx : l[i]? = some x) (hn : lookL (namesL (l.take i)) [x.rep, x.num] = none) : updL (namesL (l.take i)) [x.rep, x.num] true = namesL (l.take (i + 1)) := by
 rw [updL_none _ _ _ hn, List.take_add_one, hx];simp [namesL]
theorem mksTo_zero (t : TblS) (l : List MkS) : MksTo t l 0 := fun i x h => by omega
theorem mksTo_succ {t : TblS} {l : List MkS} {i : Nat} {x : MkS} (hx : l[i]? = some x) (h : MksTo t l i) (h1 : RightK t x) (h2 : ∀ j y, j < i → l[j]? = some y → ¬ Nm y x) (h3 : ∀ y, 0 < i → l[i - 1]? = some y → ¬ LtK x y) : MksTo t l (i + 1) := by
 intro k y hk hy
 by_cases hki : k = i
 ·subst hki;rw [hx] at hy;cases hy;exact ⟨h1, h2, h3⟩
 ·exact h k y (by omega) hy
set_option maxHeartbeats 4000000 in
theorem valid34_p (t : TblS) (g : MgS) : CallP Tryz.prog 206 [.agg (tblC t), .agg (mgC g)] (bl (decide (ValG t g))) := by
  obtain ⟨put, drop, l⟩ := g
  have no : ∀ {p : Prop}, (p → False) → ¬ p := fun h => h
  refine CallA.of pg ord206 Tryz.func206 rfl Tryz.ntmps206 Tryz.results206 rfl fun h0 G0 O0 => ?_
  by_cases hg : GenG t ⟨put, drop, l⟩
  · have g1 : drop = true → t.kind = 3 := hg.1
    have g2 : put = true → ¬ isReg t.kind := fun h h' => hg.2.1 ⟨h, h'⟩
    have g3 : ¬ (t.kind = 4 ∧ 1 < l.length) := hg.2.2.1
    have g4 : l.length ≤ 1024 := hg.2.2.2
    repeat' (first|refine Sp.h ?_|refine Lk.r rfl ?_|refine Rf.mk rfl ?_|refine xA ?_|refine xB ?_|(refine Bd.mk ?_ ?_ <;> intro _)|refine Im.mk fun _=>?_|refine All.mk fun _=>?_|refine xT ?_|refine Ch.l ⟨rfl, rfl⟩ ?_|refine xN ?_|(apply Cl.p (register_p _);focus repeat' constructor))
    all_goals try exact absurd (by assumption) (g2 (by assumption))
    all_goals try exact absurd (g1 (by assumption)) (by assumption)
    all_goals try exact (g3 ⟨by omega, by omega⟩).elim
    all_goals try (simp only at *;omega)
    all_goals refine MkM.r bl ?_
    all_goals repeat' (first|refine Sp.h ?_|refine Lk.r rfl ?_|refine Rf.mk rfl ?_|refine Im.mk fun _=>?_|refine All.mk fun _=>?_|refine xT ?_|fail)
    all_goals refine CA.loop (fun i : Nat => ⟨[(2, pm _), (3, pm _), (5, .val (.map (some _))), (42, mks l), (43, it (l.length : Nat)), (44, it i)], [blkR _ 150 (tblC t), blkR _ 231 (mgC ⟨put, drop, l⟩), mapR Tryz.prog _ 70 (namesL (l.take i)) bl]⟩) (fun i => i ≤ l.length ∧ MksTo t l i) (fun i => l.length - i) 0 xE ⟨Nat.zero_le _, mksTo_zero t l⟩ ?_
    all_goals
      rintro i ⟨hi, hm⟩
      by_cases hin : i < l.length
      · obtain ⟨x, hx⟩ := get_of hin
        have hlk := names_look (l.take i) x
        by_cases hdup : HasNm (l.take i) x
        · rw [if_pos hdup] at hlk
          repeat' (first|refine Sp.h ?_|refine Lk.r rfl ?_|refine Rf.mk rfl ?_|refine xA ?_|refine xB ?_|(refine Bd.mk ?_ ?_ <;> intro _)|refine OpK.r rfl ?_|refine All.mk fun _=>?_|refine xT ?_|refine xI ?_|refine Ch.l ⟨rfl, rfl⟩ ?_|(apply SetAsk.r;focus repeat' constructor)|refine xN ?_|refine xK ?_|(apply Kf.mk;(focus kernel_rfl))|refine xM ?_|(apply LkM.s;(focus first|assumption|rfl))|refine xD ?_|(apply Cl.p (right_p _ _);focus repeat' constructor)|(apply Cl.p (dot_p _);focus repeat' constructor))
          all_goals refine Fin.p rfl (vb (decide_eq_false (fun h => ?_)).symm)
          all_goals
            obtain ⟨h1, h2, -⟩ := h.2 i x hin hx
            first
              | exact absurd h1 (by assumption)
              | (obtain ⟨y, hy, hn⟩ := hdup
                 obtain ⟨j, hj⟩ := List.getElem?_of_mem hy
                 have hji : j < i := by have := (List.getElem?_eq_some_iff.1 hj).1;rw [List.length_take] at this;omega
                 rw [List.getElem?_take, if_pos hji] at hj
                 exact h2 j y hji hj hn)
        · rw [if_neg hdup] at hlk
          have hap := names_app hx hlk
          have hd : ∀ j y, j < i → l[j]? = some y → ¬ Nm y x := fun j y hj hy hn => hdup ⟨y, List.mem_of_getElem? (i := j) (by rw [List.getElem?_take, if_pos hj];exact hy), hn⟩
          rcases Nat.eq_zero_or_pos i with h0|h0
          · subst h0
            repeat' (first|refine Sp.h ?_|refine Lk.r rfl ?_|refine Rf.mk rfl ?_|refine xA ?_|refine xB ?_|(refine Bd.mk ?_ ?_ <;> intro _)|refine OpK.r rfl ?_|refine All.mk fun _=>?_|refine xT ?_|refine xI ?_|refine Ch.l ⟨rfl, rfl⟩ ?_|(apply SetAsk.r;focus repeat' constructor)|refine xN ?_|refine xK ?_|(apply Kf.mk;(focus kernel_rfl))|refine xM ?_|refine UpV.r rfl ?_|(apply Zx.b;(focus rfl))|(apply LkM.n;(focus first|assumption|rfl))|refine xD ?_|refine xO ?_|(apply Cl.p (right_p _ _);focus repeat' constructor)|(apply Cl.p (dot_p _);focus repeat' constructor))
            all_goals first
              | (refine Fin.p rfl (vb (decide_eq_false (fun h => ?_)).symm)
                 exact absurd (h.2 0 x hin hx).1 (by assumption))
              | (rw [hap]
                 exact PA.lp 1 xE ⟨⟨hin, mksTo_succ hx hm (by assumption) hd (fun y h _ => absurd h (Nat.lt_irrefl 0))⟩, by omega⟩)
          · obtain ⟨k, rfl⟩ : ∃ k, i = k + 1 := ⟨i - 1, by omega⟩
            obtain ⟨y, hy⟩ := get_of (l := l) (i := k) (by omega)
            have hk4 : ¬ t.kind = 4 := fun h => g3 ⟨h, by omega⟩
            have hcm := cmpK_pos (a := y) (b := x)
            first
              | exact absurd (by assumption) hk4
              | skip
            all_goals repeat' (first|refine Sp.h ?_|refine Lk.r rfl ?_|refine Rf.mk rfl ?_|refine xA ?_|refine xB ?_|(refine Bd.mk ?_ ?_ <;> intro _)|refine OpK.r rfl ?_|refine All.mk fun _=>?_|refine xT ?_|refine xI ?_|(apply Ix.r;(focus assumption);(focus omega))|refine Ch.l ⟨rfl, rfl⟩ ?_|(apply SetAsk.r;focus repeat' constructor)|refine xN ?_|refine xK ?_|(apply Kf.mk;(focus kernel_rfl))|refine xM ?_|(apply Zx.b;(focus rfl))|(apply LkM.n;(focus first|assumption|rfl))|refine xD ?_|refine xO ?_|(apply Cl.p (right_p _ _);focus repeat' constructor)|(apply Cl.p (dot_p _);focus repeat' constructor))
            all_goals try (refine Fin.p rfl (vb (decide_eq_false (fun h => ?_)).symm);exact absurd (h.2 (k + 1) x hin hx).1 (by assumption))
            all_goals repeat' (first|refine Sp.h ?_|refine Lk.r rfl ?_|refine Rf.mk rfl ?_|refine xA ?_|(refine Bd.mk ?_ ?_ <;> intro _)|refine OpK.r rfl ?_|refine xT ?_|refine Ch.l ⟨rfl, rfl⟩ ?_|refine xN ?_|refine xK ?_|(apply Kf.mk;(focus kernel_rfl))|refine xM ?_|refine UpV.r rfl ?_|refine xO ?_|(apply Cl.p (compareK_p _ _);focus repeat' constructor)|(apply Cl.p (dot_p _);focus repeat' constructor))
            all_goals first
              | (refine Fin.p rfl (vb (decide_eq_false (fun h => ?_)).symm)
                 exact (h.2 (k + 1) x hin hx).2.2 y h0 hy (hcm.1 (by assumption)))
              | (rw [hap]
                 exact PA.lp (k + 1 + 1) xE ⟨⟨hin, mksTo_succ hx hm (by assumption) hd (fun z _ hz => by rw [show k + 1 - 1 = k from rfl, hy] at hz;cases hz;exact fun h => absurd (hcm.2 h) (by assumption))⟩, by omega⟩)
      · have hie : i = l.length := by omega
        subst hie
        repeat' (first|refine Sp.h ?_|refine Lk.r rfl ?_|refine Rf.mk rfl ?_|refine xB ?_|refine xN ?_|fail)
        exact Fin.p rfl (vb (decide_eq_true (show ValG t ⟨put, drop, l⟩ from ⟨hg, hm⟩)).symm)
  · have hng : ¬ ValG t ⟨put, drop, l⟩ := fun h => hg h.1
    unfold GenG at hg
    repeat' (first|refine Sp.h ?_|refine Lk.r rfl ?_|refine Rf.mk rfl ?_|refine xA ?_|refine xB ?_|(refine Bd.mk ?_ ?_ <;> intro _)|refine Im.mk fun _=>?_|refine All.mk fun _=>?_|refine xT ?_|refine Ch.l ⟨rfl, rfl⟩ ?_|refine xN ?_|(apply Cl.p (register_p _);focus repeat' constructor))
    all_goals first
      | exact Fin.p rfl (vb (decide_eq_false hng).symm)
      | (refine (hg ⟨fun h => ?_, fun h => ?_, fun h => ?_, ?_⟩).elim
         all_goals (simp only at *;first|assumption|omega|simp_all))
def ValL (ts : List TblS) (l : List MgS) : Prop := ts.length = l.length ∧ ∀ (i : Nat) (t : TblS) (g : MgS), ts[i]? = some t → l[i]? = some g → ValG t g
noncomputable instance (ts : List TblS) (l : List MgS) : Decidable (ValL ts l) := Classical.propDecidable _
abbrev EqFn : FuncId := 205
theorem equalTM_p (ts : List TblS) (l : List MgS) : CallP Tryz.prog EqFn [tbls ts, mgs l, .fn 206 []] (bl (decide (ValL ts l))) := by
 refine CallA.of pg ord205 Tryz.func205 rfl Tryz.ntmps205 Tryz.results205 rfl fun h0 G0 O0 => ?_
 repeat' (first|refine Sp.h ?_|refine Lk.r rfl ?_|refine Rf.mk rfl ?_|(refine Bd.mk ?_ ?_ <;> intro _)|refine Im.mk fun _=>?_|refine xN ?_|fail)
 rotate_left
 ·rename_i hlen
  exact Fin.p rfl (vb (decide_eq_false (fun h => by have := h.1;omega)).symm)
 refine CA.loop (fun i : Nat => ⟨[(1, mgs l), (2, .fn 206 []), (15, tbls ts), (16, it (ts.length : Nat)), (17, it i)], []⟩) (fun i => i ≤ ts.length ∧ ∀ j t g, j < i → ts[j]? = some t → l[j]? = some g → ValG t g) (fun i => ts.length - i) 0 xE ⟨Nat.zero_le _, fun j t g h => by omega⟩ ?_
 rintro i ⟨hi, ha⟩
 by_cases hin : i < ts.length
 ·obtain ⟨t, ht⟩ := get_of hin
  obtain ⟨g, hg⟩ := get_of (l := l) (i := i) (by omega)
  repeat' (first|refine Sp.h ?_|refine Lk.r rfl ?_|refine Rf.mk rfl ?_|refine xA ?_|(refine Bd.mk ?_ ?_ <;> intro _)|refine All.mk fun _=>?_|refine xT ?_|refine xI ?_|refine Ch.l ⟨rfl, rfl⟩ ?_|(apply SetAsk.r;focus repeat' constructor)|refine xN ?_|refine xO ?_|(apply Cl.p (valid34_p _ _);focus repeat' constructor))
  ·refine PA.lp (i + 1) xE ⟨⟨hin, fun j t' g' hj h1 h2 => ?_⟩, by omega⟩
   by_cases hji : j = i
   ·subst hji;rw [ht] at h1;rw [hg] at h2;cases h1;cases h2;assumption
   ·exact ha j t' g' (by omega) h1 h2
  ·exact Fin.p rfl (vb (decide_eq_false (fun h => by have := h.2 i t g ht hg;contradiction)).symm)
 have hie : i = ts.length := by omega
 subst hie
 repeat' (first|refine Sp.h ?_|refine Lk.r rfl ?_|refine Rf.mk rfl ?_|refine xB ?_|refine xN ?_|fail)
 exact Fin.p rfl (vb (decide_eq_true (show ValL ts l from ⟨by omega, fun j t g h1 h2 => ha j t g (List.getElem?_eq_some_iff.1 h1).1 h1 h2⟩)).symm)
theorem validM_p (m : ModS) (l : List MgS) (hm : LayOK m.sorts m.tables) : CallP Tryz.prog 160 [mdl m, mgs l] (bl (decide (ValL (mrgF m) l))) := by
 have hc := cells_p m hm
 have he := equalTM_p (mrgF m) l
 refine CallA.of pg ord160 Tryz.func160 rfl Tryz.ntmps160 Tryz.results160 rfl fun h0 G0 O0 => ?_
 repeat' (first|refine Sp.h ?_|refine Lk.r rfl ?_|refine Rf.mk rfl ?_|refine All.mk fun _=>?_|refine xT ?_|refine Ch.l ⟨rfl, rfl⟩ ?_|(apply Cl.p (hc);focus repeat' constructor))
 refine xQ (he) ?_
 repeat' (first|refine Sp.h ?_|refine Lk.r rfl ?_|refine xN ?_|fail)
 exact Fin.p rfl rfl
end Go.Proofs.YtmjllbjfkafhdaaGreatDoor
namespace Go.Proofs.YtmjllbjfkafhdaaGreatDoor
open Go Go.CF
set_option maxRecDepth 20000
def KindM (ts : List TblS) : Prop := ∀ t ∈ ts, 2 ≤ t.kind ∧ t.kind ≤ 5
theorem mrgL_mem {m : ModS} {l : List TblS} {t : TblS} (h : t ∈ mrgL m l) : t ∈ l ∧ ¬ isStrict t.kind := by
 unfold mrgL at h
 obtain ⟨u, hu, ht⟩ := List.mem_flatMap.1 h
 split at ht
 ·cases ht
 ·rename_i hs
  have := List.eq_of_mem_replicate ht
  subst this
  exact ⟨hu, hs⟩
theorem kindM {m : ModS} (hm : LayOK m.sorts m.tables) : KindM (mrgF m) := by
 intro t ht
 obtain ⟨h1, h2⟩ := mrgL_mem ht
 have := (hm.2.2.2 t h1).2
 unfold isStrict at h2
 omega
end Go.Proofs.YtmjllbjfkafhdaaGreatDoor
namespace Go.CF
open Go
section
variable {P : Program} {tt : Nat → Option TI} {en : Nat → Bool} {n : Nat} {ty t u : TypeId} {env : Env} {h : Heap} {x y : Operand}
theorem ld_copy0 (G : PgOK P tt en) {ti te : TI} {e dl dc m : Nat} {p : Option Addr} {news : List Value} {xv : Value} {K : Value → Heap → Prop} (ht : tt t = some ti) (hk : ti.kind = .slice e) (hte : tt e = some te)
  (hx : ev env x = some (.slice p dl dc)) (hy : ev env y = some xv) (hs : Sl h xv m news) (hm : min m dl = 0) (k : K (.int .i64 (0 : Nat)) h) : Ld P n (.call { callee := .builtin .copy, args := #[x, y], argTypes := #[t, u] }) ty env h K := by
 intro a w oo next Q ha hw hop hty hn
 obtain ⟨i, dd, hi, hd, hi1, hi2, hi3, _⟩ := (G.ok _ _ hte).ok
 have hu := (G.ok _ _ ht).slice hk
 obtain ⟨q, qc, rfl⟩ := hs.shape
 have hr := run_copy0 (P := P) w t u ty e p q dl dc m qc hu hi hm
 have hrun : (execOp a.eval (mkOp (.call { callee := .builtin .copy, args := #[x, y], argTypes := #[t, u] }) ty)).run P w = .ok (.value (goInt (0 : Nat))) w := by
  simp [mkOp, execOp, resolve, invoke, builtin, ha.ev hx, ha.ev hy, hr]
 unfold Oper.wp
 rw [exec_mk, hop, hty, hrun]
 exact hn _ w (Same.refl w) (hw ▸ k)
end
section
variable {Γ : Cx} {k : List KI} {e : EA} {o : List Res} {N : NA} {c : Cls} {d : Tmp} {ty : TypeId} {x y z : Operand} {t u : TypeId} {kk : IntKind} {i : Int}
structure Cpy (Γ : Cx) (c : Cls) (d : Tmp) (t u : TypeId) (x y : Operand) (ty : TypeId) (e : EA) (o : List Res) (N : NA) (a b : AV) : Prop where
 h : evA e x = some a → evA e y = some b → isLoud c = true → SA Γ c (some d) (.call { callee := .builtin .copy, args := #[x, y], argTypes := #[t, u] }) ty e o N
instance : Sp (SA Γ c (some d) (.call { callee := .builtin .copy, args := #[x, y], argTypes := #[t, u] }) ty e o N) (Rf (isLoud c = true) (Lk (evA e x) fun a => Lk (evA e y) fun b => Cpy Γ c d t u x y ty e o N a b)) := ⟨fun ⟨hc, _, ha, _, hb, h⟩ => h.h ha hb hc⟩
theorem own_seg {h h' : Heap} {b of cap len T sz : Nat} {l X : List Value} {R : List Value} {j cnt : Nat} (hw : Own h (.slice (some ⟨b, of, none⟩) len cap) T sz len R) (hX : X.length = cnt * sz) (hj : j + cnt ≤ len)
  (hu : Upd h b T (l.take (of + j * sz) ++ X ++ l.drop (of + j * sz + cnt * sz)) h') (hfit : of + cap * sz ≤ l.length) (hlc : len ≤ cap) (hR : (l.drop of).take (len * sz) = R) : Own h' (.slice (some ⟨b, of, none⟩) len cap) T sz len (R.take (j * sz) ++ X ++ R.drop (j * sz + cnt * sz)) := by
 have hjs : j * sz + cnt * sz ≤ len * sz := by rw [← Nat.add_mul];exact Nat.mul_le_mul_right _ hj
 have hls : len * sz ≤ cap * sz := Nat.mul_le_mul_right _ hlc
 have hl := hw.len_vs
 refine ⟨by simp only [List.length_append, List.length_take, List.length_drop];omega, .inr ⟨b, of, cap, _, rfl, hu.blk, ?_, hlc, ?_⟩⟩
 ·simp only [List.length_append, List.length_take, List.length_drop];omega
 ·rw [← hX, own_write (by rw [hX];exact hjs) (by omega), hR]
theorem Upd.fpx {h h' : Heap} {b : Nat} {T : TypeId} {l : List Value} (hu : Upd h b T l h') {O : Nat → Prop} (ho : O b) : FPx (fun y => ¬ O y) h h' :=
 ⟨hu.stp.size, fun y hy hl => hu.stp.same y hl (fun hm => hy (by rw [List.mem_singleton.1 hm];exact ho))⟩
theorem con_seg {h' : Heap} {hh : Heap} {env : Env} {G : Nat → Prop} {R R' : Res} {rest : List Res} {O : Nat → Prop} {Os : List (Nat → Prop)} {b : Nat} {T : TypeId} {l : List Value} (cn : Con Γ ⟨e, R :: rest⟩ env hh G (O :: Os)) (hu : Upd hh b T l h') (ho : O b) (hr : FPx G hh h' → R'.R h' O G) : Con Γ ⟨e, R' :: rest⟩ env h' G (O :: Os) := by
 have hx := hu.fpx ho
 have hg : FPx G hh h' := hx.mono fun y hy hoy => (cn.hp.o O (by simp) y hoy).2.2 hy
 exact cn.upd (R' := R') (O' := O) hx (fun y hy => ⟨Nat.lt_of_lt_of_le (cn.hp.o O (by simp) y hy).1 hu.stp.size, .inl hy⟩) (hr hg)
instance {v : Value} {s j m : Nat} {b : AV} : Sp (Cpy Γ c d t u x y ty e o N (.os v s j m) b) (Lk (slE Γ.tt t) fun p => Src o b p.2.size fun q g => TkA o v fun T sz l f rest => Rf (T = p.1 ∧ sz = p.2.size ∧ s = sz) (Mp q g f fun q' =>
  N ((d, .val (.int .i64 (min q'.length m : Nat))) :: e) (arrR v T sz (l.take j ++ q'.take (min q'.length m) ++ l.drop (j + min q'.length m)) f :: rest))) := ⟨fun ⟨p, hp, β, q, g, ⟨α, T, sz, l, f, rest, tk, ⟨hT, hz, hs⟩, q', hq', hn⟩, hsrc⟩ => ⟨fun ha hb hc => ⟨fun env hh G Os cn => by
 obtain ⟨w, g1, p0, len, cap, rfl, hjm, rfl⟩ := cn.get ha
 obtain ⟨w2, g2, r2⟩ := cn.get hb
 obtain ⟨srows, hsl, hsr⟩ := hsrc cn.hp r2
 have hql : q'.length = q.length := by have := congrArg List.length hq';simpa using this
 have hsr' := hsr.map hq'
 subst hs;subst hT;subst hz
 obtain ⟨ti, t1, t2, t3⟩ := slE_spec hp
 obtain ⟨O, Os', cn2⟩ := cn.take tk
 obtain ⟨⟨ho, rows, hw, hr⟩, hrest⟩ := cn2.hp.own
 by_cases h0 : min q'.length m = 0
 ·refine .ofLd hc (ld_copy0 Γ.ok t1 t2 t3 g1 g2 hsl (by rw [← hql];exact h0) ?_)
  rw [h0, List.take_zero, List.append_nil, Nat.add_zero, List.take_append_drop] at hn
  exact CN.mk (cn2.put d (a := .val (.int .i64 (0 : Nat))) rfl) hn
 ·rcases hw.ok with ⟨e1, e2⟩|⟨b, of, cap', L, e1, hbk, h1, h2, h3⟩
  ·cases e1;omega
  ·cases e1
   have hsub : subA (some ⟨b, of, none⟩) p.2.size j cap = some ⟨b, of + j * p.2.size, none⟩ := by
    unfold subA;rw [if_neg (by omega)];simp [addr_add]
   rw [hsub] at g1
   have hlen := hw.len_vs
   have hssz := hsr.sz
   have hsfl : srows.flatten.length = q.length * p.2.size := by rw [hsr.flen]
   have hmin : min q'.length m * p.2.size ≤ q.length * p.2.size := Nat.mul_le_mul_right _ (by omega)
   have hjs : j * p.2.size + min q'.length m * p.2.size ≤ l.length * p.2.size := by rw [← Nat.add_mul];exact Nat.mul_le_mul_right _ (by omega)
   have hls : l.length * p.2.size ≤ cap * p.2.size := Nat.mul_le_mul_right _ h2
   refine .ofLd hc (ld_copy Γ.ok t1 t2 t3 g1 g2 hbk hsl hsfl (fun v hv => hsr.one v (List.mem_of_mem_take hv)) (by rw [← hql];omega) fun h' hsz hu => ?_)
   rw [← hql] at hu ⊢
   have hob : O b := (ho b).2 (by simp [blkOf])
   have hX : (srows.flatten.take (min q'.length m * p.2.size)).length = min q'.length m * p.2.size := by rw [List.length_take];omega
   have hown := own_seg (j := j) hw hX (by omega) hu h1 h2 h3
   have hlen2 : (l.take j ++ q'.take (min q'.length m) ++ l.drop (j + min q'.length m)).length = l.length := by simp;omega
   have hfl : (rows.take j ++ srows.take (min q'.length m) ++ rows.drop (j + min q'.length m)).flatten = rows.flatten.take (j * p.2.size) ++ srows.flatten.take (min q'.length m * p.2.size) ++ rows.flatten.drop (j * p.2.size + min q'.length m * p.2.size) := by
    rw [List.flatten_append, List.flatten_append, flat_take rows j hr.sz, flat_take srows _ hssz, flat_drop rows _ hr.sz, Nat.add_mul]
   have c3 := con_seg (R' := arrR (.slice (some ⟨b, of, none⟩) l.length cap) p.1 p.2.size (l.take j ++ q'.take (min q'.length m) ++ l.drop (j + min q'.length m)) f) cn2 hu hob (fun hg => ⟨ho, rows.take j ++ srows.take (min q'.length m) ++ rows.drop (j + min q'.length m), by rw [hlen2, hfl];exact hown, (((hr.take j).app (hsr'.take _)).app (hr.drop _)).stp hg⟩)
   exact CN.mk (c3.put d (a := .val _) rfl) hn⟩⟩⟩
end
end Go.CF
namespace Go.CF
open Go
section
variable {Γ : Cx} {k : List KI} {e : EA} {o : List Res} {N : NA} {c : Cls} {d : Tmp} {ty : TypeId} {x y z : Operand} {t u : TypeId} {kk : IntKind} {i : Int}
structure CpS (o : List Res) (v : Value) (A : Prop) (X : TypeId → Nat → List (List Value) → Nat → List Res → Prop) : Prop where
 ok : A ∨ ∃ T sz L m rest, Take o (arrX v T sz L m) rest ∧ X T sz L m rest
theorem CpS.all {α : Type} {o rest : List Res} {v : Value} {A : Prop} {X : TypeId → Nat → List (List Value) → Nat → List Res → Prop} {T : TypeId} {sz : Nat} {l : List α} {f : α → List AV} (_ : Take o (arrR v T sz l f) rest) (h : A) : CpS o v A X := ⟨.inl h⟩
theorem CpS.part {o rest : List Res} {v : Value} {A : Prop} {X : TypeId → Nat → List (List Value) → Nat → List Res → Prop} {T : TypeId} {sz m : Nat} {L : List (List Value)} (tk : Take o (arrX v T sz L m) rest) (h : X T sz L m rest) : CpS o v A X := ⟨.inr ⟨T, sz, L, m, rest, tk, h⟩⟩
structure Cpg (Γ : Cx) (c : Cls) (d : Tmp) (t u : TypeId) (x y : Operand) (ty : TypeId) (e : EA) (o : List Res) (N : NA) (v : Value) (s j m : Nat) (b : AV) : Prop where
 h : Lk (slE Γ.tt t) fun p => Src o b p.2.size fun q g => TkA o v fun T sz l f rest => Rf (T = p.1 ∧ sz = p.2.size ∧ s = sz) (Mp q g f fun q' =>
  N ((d, .val (.int .i64 (min q'.length m : Nat))) :: e) (arrR v T sz (l.take j ++ q'.take (min q'.length m) ++ l.drop (j + min q'.length m)) f :: rest))
instance {v : Value} {s j m : Nat} {b : AV} : Sp (Cpg Γ c d t u x y ty e o N v s j m b) (Lk (slE Γ.tt t) fun p => Src o b p.2.size fun q g => TkA o v fun T sz l f rest => Rf (T = p.1 ∧ sz = p.2.size ∧ s = sz) (Mp q g f fun q' =>
  N ((d, .val (.int .i64 (min q'.length m : Nat))) :: e) (arrR v T sz (l.take j ++ q'.take (min q'.length m) ++ l.drop (j + min q'.length m)) f :: rest))) := ⟨fun h => ⟨h⟩⟩
instance (priority := 1100) {v : Value} {s j m s' j' m' : Nat} : Sp (Cpy Γ c d t u x y ty e o N (.os v s j m) (.os v s' j' m')) (CpS o v (Cpg Γ c d t u x y ty e o N v s j m (.os v s' j' m')) fun T sz L M rest => Lk (slE Γ.tt t) fun p => Rf (T = p.1 ∧ sz = p.2.size ∧ s = sz) (Rf (s' = sz)
  (Om (j' + min m' m ≤ L.length ∧ j ≤ L.length ∧ j + min m' m = M) (N ((d, .val (.int .i64 (min m' m : Nat))) :: e) (arrR v T sz (L.take j ++ (L.drop j').take (min m' m)) valR :: rest))))) := ⟨fun ⟨hor⟩ => by
 rcases hor with hA|⟨T, sz, L, M, rest, tk, p, hp, ⟨hT, hz, hs⟩, hs', ⟨hc1, hc2, hc3⟩, hn⟩
 ·exact Sp.h hA.h
 ·subst hs;subst hT;subst hz;subst hs'
  refine ⟨fun ha hb hc => ⟨fun env hh G Os cn => ?_⟩⟩
  obtain ⟨w, g1, p0, len, cap, rfl, hjm, rfl⟩ := cn.get ha
  obtain ⟨w2, g2, p1, len1, cap1, e2, hjm2, rfl⟩ := cn.get hb
  cases e2
  obtain ⟨ti, t1, t2, t3⟩ := slE_spec hp
  obtain ⟨O, Os', cn2⟩ := cn.take tk
  obtain ⟨⟨ho, hv, hLM, junk, hw⟩, hrest⟩ := cn2.hp.own
  rcases hw.ok with ⟨e1, e2⟩|⟨b, of, cap', l, e1, hbk, h1, h2, h3⟩
  ·cases e1
   have hL0 : L.length = 0 := by omega
   have hm0 : min m' m = 0 := by omega
   refine .ofLd hc (ld_copy0 Γ.ok t1 t2 t3 g1 g2 (m := m') (news := []) ⟨.inl ⟨_, _, by rw [show m' = 0 by omega], by omega, rfl⟩⟩ hm0 ?_)
   have hLn : L = [] := List.eq_nil_of_length_eq_zero hL0
   subst hLn
   rw [hm0, List.take_nil, List.drop_nil, List.take_nil, List.append_nil] at hn
   have hM : M = 0 := by omega
   subst hM
   have c3 : Con Γ ⟨e, arrR (.slice none 0 0) p.1 p.2.size [] valR :: rest⟩ env hh G (O :: Os') := ⟨cn2.hp.perm ⟨⟨ho, [], by simpa using (Own.nil : Own hh _ p.1 p.2.size 0 []), Rows.nil⟩, hrest⟩ (List.Perm.refl _), cn2.env, cn2.nf⟩
   exact CN.mk (c3.put d (a := .val (.int .i64 (0 : Nat))) rfl) hn
  ·cases e1
   have hfl := hv.flen
   have hlen := hw.len_vs
   have hMs : L.length * p.2.size ≤ M * p.2.size := Nat.mul_le_mul_right _ hLM
   have hMc : M * p.2.size ≤ cap * p.2.size := Nat.mul_le_mul_right _ h2
   by_cases h0 : min m' m = 0
   ·have hjM : j = M := by omega
    have hLe : L.length = M := by omega
    have hr0 : ∃ news, Sl hh (.slice (subA (some ⟨b, of, none⟩) p.2.size j' cap) m' (cap - j')) m' news := by
     rcases Nat.eq_zero_or_pos m' with hz|hz
     ·exact ⟨[], ⟨.inl ⟨_, _, by rw [hz], hz, rfl⟩⟩⟩
     ·refine ⟨(l.drop (of + j' * p.2.size)).take (m' * p.2.size), ⟨.inr ⟨b, of + j' * p.2.size, cap - j', ?_, hz, by omega, hbk.lt, hbk.cels _ _⟩⟩⟩
      unfold subA;rw [if_neg (by omega)];simp [addr_add]
    obtain ⟨news, hsl⟩ := hr0
    refine .ofLd hc (ld_copy0 Γ.ok t1 t2 t3 g1 g2 hsl h0 ?_)
    rw [h0, List.take_zero, List.append_nil, List.take_of_length_le (by omega)] at hn
    have hjk : junk = [] := List.eq_nil_of_length_eq_zero (by rw [List.length_append] at hlen;rw [hLe] at hfl;omega)
    subst hjk
    have c3 : Con Γ ⟨e, arrR (.slice (some ⟨b, of, none⟩) M cap) p.1 p.2.size L valR :: rest⟩ env hh G (O :: Os') := ⟨cn2.hp.perm ⟨⟨ho, L, by rw [hLe];simpa using hw, hv.rows hh G⟩, hrest⟩ (List.Perm.refl _), cn2.env, cn2.nf⟩
    exact CN.mk (c3.put d (a := .val (.int .i64 (0 : Nat))) rfl) hn
   ·have hsub : ∀ q, q < cap → subA (some ⟨b, of, none⟩) p.2.size q cap = some ⟨b, of + q * p.2.size, none⟩ := fun q hq => by
     unfold subA;rw [if_neg (by omega)];simp [addr_add]
    rw [hsub j (by omega)] at g1
    rw [hsub j' (by omega)] at g2
    have hjs : j' * p.2.size + min m' m * p.2.size ≤ L.length * p.2.size := by rw [← Nat.add_mul];exact Nat.mul_le_mul_right _ hc1
    have hjd : j * p.2.size + min m' m * p.2.size = M * p.2.size := by rw [← Nat.add_mul, hc3]
    have hm's : min m' m * p.2.size ≤ m' * p.2.size := Nat.mul_le_mul_right _ (by omega)
    -- what is read
    have hseg : ((l.drop (of + j' * p.2.size)).take (m' * p.2.size)).take (min m' m * p.2.size) = (L.flatten.drop (j' * p.2.size)).take (min m' m * p.2.size) := by
     have e9 : L.flatten = ((l.drop of).take (M * p.2.size)).take (L.length * p.2.size) := by rw [h3, ← hfl, List.take_left]
     rw [e9]
     simp only [List.take_take, List.drop_take, List.drop_drop]
     congr 1
     omega
    have hm'l : of + j' * p.2.size + m' * p.2.size ≤ l.length := by
     have : j' * p.2.size + m' * p.2.size ≤ M * p.2.size := by rw [← Nat.add_mul];exact Nat.mul_le_mul_right _ (by omega)
     omega
    have hsrc : Sl hh (.slice (some ⟨b, of + j' * p.2.size, none⟩) m' (cap - j')) m' ((l.drop (of + j' * p.2.size)).take (m' * p.2.size)) := ⟨.inr ⟨b, of + j' * p.2.size, cap - j', rfl, by omega, by omega, hbk.lt, hbk.cels _ _⟩⟩
    have hX1 : ((L.flatten.drop (j' * p.2.size)).take (min m' m * p.2.size)).length = min m' m * p.2.size := by rw [List.length_take, List.length_drop];omega
    have hone : ∀ w ∈ L.flatten, w.oneCell' = true := fun w hw => by
     obtain ⟨r, hr, hw⟩ := List.mem_flatten.1 hw
     exact hv.one r hr w hw
    refine .ofLd hc (ld_copy Γ.ok t1 t2 t3 g1 g2 hbk hsrc (by rw [List.length_take, List.length_drop];omega) (fun w hw => by rw [hseg] at hw;exact hone w (List.mem_of_mem_drop (List.mem_of_mem_take hw))) (by omega) fun h' hsz hu => ?_)
    rw [hseg] at hu
    have hob : O b := (ho b).2 (by simp [blkOf])
    have hown := own_seg (j := j) hw hX1 (by omega) hu h1 h2 h3
    have hLj : j * p.2.size ≤ L.length * p.2.size := Nat.mul_le_mul_right _ hc2
    rw [List.take_append_of_le_length (by omega), List.drop_of_length_le (l := L.flatten ++ junk) (by rw [hlen];omega), List.append_nil] at hown
    have hvn : RowsV p.2.size (L.take j ++ (L.drop j').take (min m' m)) := ⟨fun r hr => by
      rcases List.mem_append.1 hr with h|h
      ·exact hv.sz r (List.mem_of_mem_take h)
      ·exact hv.sz r (List.mem_of_mem_drop (List.mem_of_mem_take h)), fun r hr => by
      rcases List.mem_append.1 hr with h|h
      ·exact hv.one r (List.mem_of_mem_take h)
      ·exact hv.one r (List.mem_of_mem_drop (List.mem_of_mem_take h))⟩
    have hfl2 : (L.take j ++ (L.drop j').take (min m' m)).flatten = L.flatten.take (j * p.2.size) ++ (L.flatten.drop (j' * p.2.size)).take (min m' m * p.2.size) := by
     rw [List.flatten_append, flat_take L j hv.sz, flat_take _ _ (fun r hr => hv.sz r (List.mem_of_mem_drop hr)), flat_drop L _ hv.sz]
    have hln : (L.take j ++ (L.drop j').take (min m' m)).length = M := by simp;omega
    have c3 := con_seg (R' := arrR (.slice (some ⟨b, of, none⟩) M cap) p.1 p.2.size (L.take j ++ (L.drop j').take (min m' m)) valR) cn2 hu hob (fun _ => ⟨ho, _, by rw [hln, hfl2];exact hown, hvn.rows h' G⟩)
    exact CN.mk (c3.put d (a := .val _) rfl) hn⟩
end
end Go.CF
namespace Go.CF
open Go
section
variable {Γ : Cx} {k : List KI} {e : EA} {o : List Res} {N : NA} {c : Cls} {d : Tmp} {ty : TypeId} {x y z : Operand} {t u : TypeId} {kk : IntKind} {i : Int}
structure Clr (Γ : Cx) (c : Cls) (t : TypeId) (x : Operand) (ty : TypeId) (e : EA) (o : List Res) (N : NA) (a : AV) : Prop where
 h : evA e x = some a → isLoud c = true → SA Γ c none (.call { callee := .builtin .clear, args := #[x], argTypes := #[t] }) ty e o N
instance : Sp (SA Γ c none (.call { callee := .builtin .clear, args := #[x], argTypes := #[t] }) ty e o N) (Rf (isLoud c = true) (Lk (evA e x) fun a => Clr Γ c t x ty e o N a)) := ⟨fun ⟨hc, _, ha, h⟩ => h.h ha hc⟩
instance {v : Value} {s j m : Nat} : Sp (Clr Γ c t x ty e o N (.os v s j m)) (Lk (slE Γ.tt t) fun p => TkX o v fun T sz L M rest => Rf (T = p.1 ∧ sz = p.2.size ∧ s = sz) (Rf (p.2.zero.cells.toList.all Value.oneCell' = true ∧ p.2.zero.cells.size = p.2.size) (Om (0 < m ∧ j ≤ L.length) (N e (arrX v T sz (L.take j) M :: rest))))) := ⟨fun ⟨p, hp, T, sz, L, M, rest, tk, ⟨hT, hz, hs⟩, ⟨hz1, hz2⟩, ⟨hm, hjL⟩, hn⟩ => ⟨fun ha hc => ⟨fun env hh G Os cn => by
 subst hs;subst hT;subst hz
 obtain ⟨w, g1, p0, len, cap, rfl, hjm, rfl⟩ := cn.get ha
 obtain ⟨ti, t1, t2, t3⟩ := slE_spec hp
 obtain ⟨O, Os', cn2⟩ := cn.take tk
 obtain ⟨⟨ho, hv, hLM, junk, hw⟩, hrest⟩ := cn2.hp.own
 rcases hw.ok with ⟨e1, e2⟩|⟨b, of, cap', l, e1, hbk, h1, h2, h3⟩
 ·cases e1;omega
 ·cases e1
  obtain ⟨q, rfl⟩ : ∃ q, m = q + 1 := ⟨m - 1, by omega⟩
  have hMc : M * p.2.size ≤ cap * p.2.size := Nat.mul_le_mul_right _ h2
  have hjs : j * p.2.size + (q + 1) * p.2.size ≤ M * p.2.size := by rw [← Nat.add_mul];exact Nat.mul_le_mul_right _ hjm
  have hsub : subA (some ⟨b, of, none⟩) p.2.size j cap = some ⟨b, of + j * p.2.size, none⟩ := by unfold subA;rw [if_neg (by omega)];simp [addr_add]
  rw [hsub] at g1
  refine St.clearS Γ.ok t1 t2 t3 (fun u hu => List.all_eq_true.1 hz1 u hu) hz2 g1 hbk (by omega) hc fun h' l' hu hsz hl' hsame => ?_
  have hob : O b := (ho b).2 (by simp [blkOf])
  have hfl := hv.flen
  have hLjs : j * p.2.size ≤ L.length * p.2.size := Nat.mul_le_mul_right _ hjL
  have hvt : RowsV p.2.size (L.take j) := ⟨fun r hr => hv.sz r (List.mem_of_mem_take hr), fun r hr => hv.one r (List.mem_of_mem_take hr)⟩
  have hpre : (l'.drop of).take (j * p.2.size) = (L.take j).flatten := by
   rw [flat_take L j hv.sz]
   have e9 : L.flatten.take (j * p.2.size) = (l.drop of).take (j * p.2.size) := by
    have e8 : ((l.drop of).take (M * p.2.size)).take (j * p.2.size) = (L.flatten ++ junk).take (j * p.2.size) := by rw [h3]
    rw [List.take_append_of_le_length (by omega), List.take_take, Nat.min_eq_left (by omega)] at e8
    exact e8.symm
   rw [e9]
   apply List.ext_getElem?
   intro r
   simp only [List.getElem?_take, List.getElem?_drop]
   split
   ·exact hsame _ (by omega)
   ·rfl
  have c3 := con_seg (R' := arrX (.slice (some ⟨b, of, none⟩) M cap) p.1 p.2.size (L.take j) M) cn2 hu hob (fun _ => ⟨ho, hvt, by rw [List.length_take];omega, ((l'.drop of).take (M * p.2.size)).drop (j * p.2.size), by rw [List.length_append, ← hpre];simp only [List.length_take, List.length_drop, hl'];omega, .inr ⟨b, of, cap, l', rfl, hu.blk, by omega, h2, by
   rw [← hpre]
   conv => lhs;rw [← List.take_append_drop (j * p.2.size) ((l'.drop of).take (M * p.2.size)), List.take_take, Nat.min_eq_left (by omega)]⟩⟩)
  exact CN.mk c3 hn⟩⟩⟩
instance (priority := 1050) {v : Value} {s j m : Nat} {b : AV} : Sp (Cpy Γ c d t u x y ty e o N (.os v s j m) b) (CpS o v (Cpg Γ c d t u x y ty e o N v s j m b) fun T sz L M rest => Lk (slE Γ.tt t) fun p => Rf (T = p.1 ∧ sz = p.2.size ∧ s = sz) (Src o b p.2.size fun q g => Mp q g valR fun q' =>
  Om (j ≤ L.length) (N ((d, .val (.int .i64 (min q'.length m : Nat))) :: e) (arrX v T sz (L.take j ++ q'.take (min q'.length m)) M :: rest)))) := ⟨fun ⟨hor⟩ => by
 rcases hor with hA|⟨T, sz, L, M, rest, tk, p, hp, ⟨hT, hz, hs⟩, β, q, g, ⟨q', hq', hc2, hn⟩, hsrc⟩
 ·exact Sp.h hA.h
 ·subst hs;subst hT;subst hz
  refine ⟨fun ha hb hc => ⟨fun env hh G Os cn => ?_⟩⟩
  obtain ⟨w, g1, p0, len, cap, rfl, hjm, rfl⟩ := cn.get ha
  obtain ⟨w2, g2, r2⟩ := cn.get hb
  obtain ⟨srows, hsl, hsr⟩ := hsrc cn.hp r2
  have hql : q'.length = q.length := by have := congrArg List.length hq';simpa using this
  have hsr' := hsr.map hq'
  have hsv := RowsV.of hsr'
  have e9 := rows_val hsr'
  subst e9
  obtain ⟨ti, t1, t2, t3⟩ := slE_spec hp
  obtain ⟨O, Os', cn2⟩ := cn.take tk
  obtain ⟨⟨ho, hv, hLM, junk, hw⟩, hrest⟩ := cn2.hp.own
  have hvt : RowsV p.2.size (L.take j ++ srows.take (min srows.length m)) := ⟨fun r hr => by
    rcases List.mem_append.1 hr with h|h
    ·exact hv.sz r (List.mem_of_mem_take h)
    ·exact hsv.sz r (List.mem_of_mem_take h), fun r hr => by
    rcases List.mem_append.1 hr with h|h
    ·exact hv.one r (List.mem_of_mem_take h)
    ·exact hsv.one r (List.mem_of_mem_take h)⟩
  have hfl := hv.flen
  have hsfl := hsv.flen
  have hlen := hw.len_vs
  have hfl2 : (L.take j ++ srows.take (min srows.length m)).flatten = L.flatten.take (j * p.2.size) ++ srows.flatten.take (min srows.length m * p.2.size) := by
   rw [List.flatten_append, flat_take L j hv.sz, flat_take _ _ hsv.sz]
  have hLj : j * p.2.size ≤ L.length * p.2.size := Nat.mul_le_mul_right _ hc2
  rcases hw.ok with ⟨e1, e2⟩|⟨b, of, cap', l, e1, hbk, h1, h2, h3⟩
  ·cases e1
   have h0 : min srows.length m = 0 := by omega
   refine .ofLd hc (ld_copy0 Γ.ok t1 t2 t3 g1 g2 hsl (by rw [← hql];exact h0) ?_)
   rw [h0, List.take_zero, List.append_nil] at hn
   rw [h0, List.take_zero, List.append_nil] at hvt
   have c3 : Con Γ ⟨e, arrX (.slice none 0 0) p.1 p.2.size (L.take j) M :: rest⟩ env hh G (O :: Os') := ⟨cn2.hp.perm ⟨⟨ho, hvt, by rw [List.length_take];omega, L.flatten.drop (j * p.2.size) ++ junk, by rw [← List.append_assoc, flat_take L j hv.sz, List.take_append_drop];exact hw⟩, hrest⟩ (List.Perm.refl _), cn2.env, cn2.nf⟩
   exact CN.mk (c3.put d (a := .val (.int .i64 (0 : Nat))) rfl) hn
  ·cases e1
   by_cases h0 : min srows.length m = 0
   ·refine .ofLd hc (ld_copy0 Γ.ok t1 t2 t3 g1 g2 hsl (by rw [← hql];exact h0) ?_)
    rw [h0, List.take_zero, List.append_nil] at hn
    rw [h0, List.take_zero, List.append_nil] at hvt
    have c3 : Con Γ ⟨e, arrX (.slice (some ⟨b, of, none⟩) M cap) p.1 p.2.size (L.take j) M :: rest⟩ env hh G (O :: Os') := ⟨cn2.hp.perm ⟨⟨ho, hvt, by rw [List.length_take];omega, L.flatten.drop (j * p.2.size) ++ junk, by rw [← List.append_assoc, flat_take L j hv.sz, List.take_append_drop];exact hw⟩, hrest⟩ (List.Perm.refl _), cn2.env, cn2.nf⟩
    exact CN.mk (c3.put d (a := .val (.int .i64 (0 : Nat))) rfl) hn
   ·have hsub : subA (some ⟨b, of, none⟩) p.2.size j cap = some ⟨b, of + j * p.2.size, none⟩ := by unfold subA;rw [if_neg (by omega)];simp [addr_add]
    rw [hsub] at g1
    have hMc : M * p.2.size ≤ cap * p.2.size := Nat.mul_le_mul_right _ h2
    have hjs : j * p.2.size + min srows.length m * p.2.size ≤ M * p.2.size := by rw [← Nat.add_mul];exact Nat.mul_le_mul_right _ (by omega)
    have hmin : min srows.length m * p.2.size ≤ srows.length * p.2.size := Nat.mul_le_mul_right _ (by omega)
    have hone : ∀ w ∈ srows.flatten, w.oneCell' = true := fun w hw => by
     obtain ⟨r, hr, hw⟩ := List.mem_flatten.1 hw
     exact hsv.one r hr w hw
    refine .ofLd hc (ld_copy Γ.ok t1 t2 t3 g1 g2 hbk hsl (by rw [hsfl, hql]) (fun w hw => hone w (List.mem_of_mem_take hw)) (by rw [← hql];omega) fun h' hsz hu => ?_)
    rw [← hql] at hu ⊢
    have hob : O b := (ho b).2 (by simp [blkOf])
    have hX : (srows.flatten.take (min srows.length m * p.2.size)).length = min srows.length m * p.2.size := by rw [List.length_take];omega
    have hown := own_seg (j := j) hw hX (by omega) hu h1 h2 h3
    rw [List.take_append_of_le_length (by omega), ← hfl2] at hown
    have c3 := con_seg (R' := arrX (.slice (some ⟨b, of, none⟩) M cap) p.1 p.2.size (L.take j ++ srows.take (min srows.length m)) M) cn2 hu hob (fun _ => ⟨ho, hvt, by rw [List.length_append, List.length_take, List.length_take];omega, _, hown⟩)
    exact CN.mk (c3.put d (a := .val _) rfl) hn⟩
theorem CA.ofX {y : Code} (q : Tmp) {v : Value} {T sz m : Nat} {L : List (List Value)} {rest : List Res} (ht : lookA e q = some (.ox v)) (tk : Take o (arrX v T sz L m) rest) (hl : L.length = m) (h : CA Γ k y ((q, .ow v) :: e) (arrR v T sz L valR :: rest)) : CA Γ k y e o := by
 refine ⟨fun env hh G Os cn => ?_⟩
 obtain ⟨O, Os', cn2⟩ := cn.take tk
 obtain ⟨⟨ho, hv, hLM, junk, hw⟩, hrest⟩ := cn2.hp.own
 subst hl
 have hlen := hw.len_vs
 have hfl := hv.flen
 have hj : junk = [] := List.eq_nil_of_length_eq_zero (by rw [List.length_append] at hlen;omega)
 subst hj
 rw [List.append_nil] at hw
 have c3 : Con Γ ⟨e, arrR v T sz L valR :: rest⟩ env hh G (O :: Os') := ⟨cn2.hp.perm ⟨⟨ho, L, hw, hv.rows hh G⟩, hrest⟩ (List.Perm.refl _), cn2.env, cn2.nf⟩
 exact h.h env hh G (O :: Os') (con_re (σ := ⟨e, arrR v T sz L valR :: rest⟩) c3 q (fun w hw' => by
  obtain ⟨w', g1, g2⟩ := cn.env q _ ht
  rw [hw'] at g1;cases g1;exact g2) ht)
/-! ### append of zeros, where a new row is needed -/
theorem run_append_grow_zeros {P : Program} {w : World} (t tn ty e : TypeId) (i : TypeInfo) (z : Value) (k kn : IntKind) (ht : P.underlying t = some (.slice e)) (htn : P.underlying tn = some (.int kn)) (hi : P.info? e = some i) (hz : i.zero = some z)
  (b : Addr) (sLen sCap : Nat) (olds : List Value) (hlo : olds.length = sLen * i.size) (holds : ∀ j v, olds[j]? = some v → w.cell? (b.add j) = some v) (n : Nat) (h0 : 0 < n) (hs : 0 < i.size)
  (hg : sCap < sLen + n) (h63 : ((sLen + n : Nat) : Int) ≤ 9223372036854775807) (h48 : n * i.bytes ≤ 281474976710656) (hfit : Builtin.nextslicecap (sLen + n) sCap * i.bytes ≤ 281474976710656) :
  (Builtin.append_ #[t, tn] ty #[.slice (some b) sLen sCap, .int k n]).run P w =
   .ok (.slice (some ⟨w.heap.size, 0, none⟩) (sLen + n) (grownCap w (sLen + n) sCap e))
    (w.drew.alloc (.cells (olds.toArray ++ Builtin.zeroCells z.cells n ++ Builtin.zeroCells z.cells (grownCap w (sLen + n) sCap e - (sLen + n))) e)) := by
 have hn : ¬ (sLen + n ≤ sCap) := by omega
 have hw : IntKind.i64.wrap (n : Int) = n := by rw [IntKind.wrap_i64];omega
 have h63' : ¬ (9223372036854775807 < ((sLen : Int) + (n : Int))) := by omega
 have h48' : ¬ (281474976710656 < Builtin.nextslicecap (sLen + n) sCap * i.bytes) := by omega
 have h48i : ¬ (281474976710656 < (n : Int) * (i.bytes : Int)) := by
  rw [← Int.natCast_mul];omega
 have hneg : ¬ ((n : Int) < 0) := by omega
 have hns : ¬ (n * i.size = 0) := Nat.mul_ne_zero (by omega) (by omega)
 have hfo := run_firstCells_some (P := P) w.drew i.size sLen b sLen sCap olds hlo (by simpa using holds)
 simp [Builtin.append_, run_underlying ht, run_underlying htn, sizeOf, typeInfo, zeroValue, hi, hz, asInt, asIntOf, hw, hn, hneg, hns, h63', h48', h48i, Question.forced, hfo, newRow, grownCap]
end
end Go.CF
namespace Go.CF
open Go
section
variable {Γ : Cx} {k : List KI} {e : EA} {o : List Res} {N : NA} {c : Cls} {d : Tmp} {ty : TypeId} {x y z : Operand} {t u : TypeId} {kk : IntKind} {i : Int}
structure Apz (Γ : Cx) (c : Cls) (d : Tmp) (t u : TypeId) (x y : Operand) (ty : TypeId) (e : EA) (o : List Res) (N : NA) (a b : AV) : Prop where
 h : evA e x = some a → evA e y = some b → isLoud c = true → SA Γ c (some d) (.call { callee := .builtin .append, args := #[x, y], argTypes := #[t, u] }) ty e o N
instance (priority := 900) : Sp (SA Γ c (some d) (.call { callee := .builtin .append, args := #[x, y], argTypes := #[t, u] }) ty e o N) (Rf (isLoud c = true) (Lk (evA e x) fun a => Lk (evA e y) fun b => Apz Γ c d t u x y ty e o N a b)) := ⟨fun ⟨hc, _, ha, _, hb, h⟩ => h.h ha hb hc⟩
instance {v : Value} {s m : Nat} : Sp (Apz Γ c d t u x y ty e o N (.os v s 0 m) (.val (.int .i64 i))) (Lk (slE Γ.tt t) fun p => Lk (Γ.tt u) fun ui => Rf (ui.kind = .int .i64) (Rf ((Nat.blt 0 p.2.size && Nat.ble p.2.bytes 1000) = true ∧ p.2.zero.cells.size = p.2.size) (TkA o v fun T sz l f _ => Rf (T = p.1 ∧ sz = p.2.size ∧ s = sz) (Mp l f valR fun L =>
  Jx i 100000000000 fun n => Om (0 < n ∧ capV v < m + n ∧ m ≤ l.length ∧ 0 < l.length ∧ m + n ≤ 100000000000) (All fun w : Value => N ((d, .ox w) :: e) (arrX w p.1 p.2.size (L.take m) (m + n) :: o)))))) := ⟨fun ⟨p, hp, ui, hui, huk, ⟨hs1, hs2⟩, α, T, sz, l, f, rest, tk, ⟨hT, hz, hs⟩, L, hL, n, hi, _, ⟨hn0, hcap, hml, hl0, hmn⟩, hn⟩ => ⟨fun ha hb hc => ⟨fun env hh G Os cn => by
 subst hs;subst hT;subst hz;subst hi
 obtain ⟨w, g1, p0, len, cap, rfl, hjm, rfl⟩ := cn.get ha
 obtain ⟨w2, g2, rfl⟩ := cn.get hb
 obtain ⟨ti, t1, t2, t3⟩ := slE_spec hp
 obtain ⟨O, Os', cn2⟩ := cn.take tk
 obtain ⟨⟨ho, rows, hw, hr⟩, hrest⟩ := cn2.hp.own
 have hr2 : Rows hh G p.2.size rows L valR := hr.map hL
 have hv := RowsV.of hr2
 have e9 := rows_val hr2
 subst e9
 have hLl : rows.length = l.length := hr.len
 simp only [Bool.and_eq_true, Nat.blt_eq] at hs1
 have hb1000 := Nat.le_of_ble_eq_true hs1.2
 have hlen := hw.len_vs
 have hfl := hv.flen
 rcases hw.ok with ⟨e1, e2⟩|⟨b, of, cap', l', e1, hbk, h1, h2, h3⟩
 ·omega
 ·cases e1
  have hsub : subA (some ⟨b, of, none⟩) p.2.size 0 cap = some ⟨b, of, none⟩ := subA_zero (fun a h => by cases h;rfl)
  rw [hsub] at g1
  have hcap : cap < m + n := hcap
  refine .ofLd hc fun a w oo next Q ha' hw' hop hty hnn => ?_
  obtain ⟨ie, dd, hie, hd, hi1, hi2, hi3, _⟩ := (Γ.ok.ok _ _ t3).ok
  have hu := (Γ.ok.ok _ _ t1).slice t2
  have hun := (Γ.ok.ok _ _ hui).int huk
  have hms : m * p.2.size ≤ l.length * p.2.size := Nat.mul_le_mul_right _ hml
  have hlc : l.length * p.2.size ≤ cap * p.2.size := Nat.mul_le_mul_right _ h2
  have holds : ∀ j v, (rows.take m).flatten[j]? = some v → w.cell? ((⟨b, of, none⟩ : Addr).add j) = some v := fun j v hv' => by
   rw [flat_take rows m hv.sz, ← h3, List.take_take, Nat.min_eq_left hms] at hv'
   exact ((hbk.cels of (m * p.2.size)).get j v hv').get w hw'
  have hof : (rows.take m).flatten.length = m * ie.size := by rw [flat_take rows m hv.sz, List.length_take, hfl, hi1, hLl];omega
  have hbytes : n * ie.bytes ≤ 281474976710656 := by
   rw [hi2]
   have : n * p.2.bytes ≤ 100000000000 * 1000 := Nat.mul_le_mul (by omega) hb1000
   omega
  have hfit : Builtin.nextslicecap (m + n) cap * ie.bytes ≤ 281474976710656 := growslice_fits (by omega) (by
   rw [hi2]
   have : (m + n) * p.2.bytes ≤ 100000000000 * 1000 := Nat.mul_le_mul (by omega) hb1000
   omega)
  have hrz := run_append_grow_zeros (P := Γ.P) (w := w) t u ty p.1 ie p.2.zero .i64 .i64 hu hun hie hi3 ⟨b, of, none⟩ m cap (rows.take m).flatten hof holds n hn0 (by rw [hi1];exact hs1.1) hcap (by omega) hbytes hfit
  have hge := grownCap_ge w (m + n) cap p.1
  generalize grownCap w (m + n) cap p.1 = cap2 at hrz hge
  have hrun : (execOp a.eval (mkOp (.call { callee := .builtin .append, args := #[x, y], argTypes := #[t, u] }) ty)).run Γ.P w = .ok (.value (.slice (some ⟨w.heap.size, 0, none⟩) (m + n) cap2)) (w.drew.alloc (.cells ((rows.take m).flatten.toArray ++ Builtin.zeroCells p.2.zero.cells n ++ Builtin.zeroCells p.2.zero.cells (cap2 - (m + n))) p.1)) := by
   simp [mkOp, execOp, resolve, invoke, builtin, ha'.ev g1, ha'.ev g2, hrz]
  unfold Oper.wp
  rw [exec_mk, hop, hty, hrun]
  have hheap : (w.drew.alloc (.cells ((rows.take m).flatten.toArray ++ Builtin.zeroCells p.2.zero.cells n ++ Builtin.zeroCells p.2.zero.cells (cap2 - (m + n))) p.1)).heap = hh.push (.cells ((rows.take m).flatten ++ (Builtin.zeroCells p.2.zero.cells n).toList ++ (Builtin.zeroCells p.2.zero.cells (cap2 - (m + n))).toList).toArray p.1 (0, 0)) := by
   simp only [World.alloc, World.drew, hw']
   congr 2
   apply Array.ext'
   simp
  have hnew : New hh hh.size p.1 ((rows.take m).flatten ++ (Builtin.zeroCells p.2.zero.cells n).toList ++ (Builtin.zeroCells p.2.zero.cells (cap2 - (m + n))).toList) (w.drew.alloc (.cells ((rows.take m).flatten.toArray ++ Builtin.zeroCells p.2.zero.cells n ++ Builtin.zeroCells p.2.zero.cells (cap2 - (m + n))) p.1)).heap := ⟨rfl, hheap⟩
  have hvt : RowsV p.2.size (rows.take m) := ⟨fun r hr => hv.sz r (List.mem_of_mem_take hr), fun r hr => hv.one r (List.mem_of_mem_take hr)⟩
  refine hnn _ _ (Same.of_push rfl) ?_
  have hzl : (Builtin.zeroCells p.2.zero.cells n).toList.length = n * p.2.size := by simp [size_zeroCells, hs2]
  have hzl2 : (Builtin.zeroCells p.2.zero.cells (cap2 - (m + n))).toList.length = (cap2 - (m + n)) * p.2.size := by simp [size_zeroCells, hs2]
  rw [hi1] at hof
  have hcs : (m + n) * p.2.size + (cap2 - (m + n)) * p.2.size = cap2 * p.2.size := by rw [← Nat.add_mul];congr 1;omega
  have hmns : (m + n) * p.2.size = m * p.2.size + n * p.2.size := Nat.add_mul _ _ _
  have c3 := cn.new (R := arrX (.slice (some ⟨hh.size, 0, none⟩) (m + n) cap2) p.1 p.2.size (rows.take m) (m + n)) (O := fun y => y = hh.size) hnew (fun y h => h)
   ⟨fun y => by simp [blkOf], hvt, by rw [List.length_take];omega, (Builtin.zeroCells p.2.zero.cells n).toList, by rw [List.length_append, hof, hzl, hmns], .inr ⟨hh.size, 0, cap2, _, rfl, hnew.blk, by simp only [List.length_append, hof, hzl, hzl2];omega, by omega, by rw [List.drop_zero, List.take_left' (by rw [List.length_append, hof, hzl, hmns])]⟩⟩
  rw [hw']
  exact CN.mk (c3.put d (a := .ox _) ⟨rfl, _, _, _, rfl⟩) (hn.ok _)⟩⟩⟩
end
end Go.CF
namespace Go.CF
open Go
theorem run_overlaps_none {P : Program} (w : World) (tS tR e : TypeId) (ht : P.underlying tS = some (.slice e)) (size : Nat) (hz : ∀ w, (Go.sizeOf e).run P w = .ok size w) (p q : Option Addr) (la ca lb cb : Nat) (h : p = none ∨ q = none ∨ la = 0 ∨ lb = 0) :
  (Extern.SlicesOverlaps.overlaps #[tS, tS] #[tR] #[.slice p la ca, .slice q lb cb]).run P w = .ok (.bool false) w := by
 change Sem.run P (α := Value) (do
  let some t := (#[tS, tS] : Array TypeId)[0]?|stuck "slices.overlaps: no parameter types"
  let .slice elem ← underlying t|stuck "slices.overlaps: slice type expected"
  let size ← sizeOf elem
  match p, q with
  | some a, some b =>
   if la = 0 ∨ lb = 0 ∨ size = 0 then pure (Value.bool false)
   else if a.block != b.block && (← frozen a) && (← frozen b) then unsupported .addressObserved
   else do
    if a.block != b.block then do
     noView a;noView b
     if ← mayBeOne a b then return Value.bool ((← choose (.extern "sameAddr.stringBytes" 2)) == 1)
    pure (Value.bool (a.block == b.block && a.off < b.off + lb * size && b.off < a.off + la * size))
  | _, _ => pure (Value.bool false)) w = _
 cases p with
 | none => simp [run_underlying ht, hz]
 | some a =>
  cases q with
  | none => simp [run_underlying ht, hz]
  | some b =>
   have h0 : la = 0 ∨ lb = 0 ∨ size = 0 := by rcases h with h|h|h|h <;> simp_all
   simp [run_underlying ht, hz, h0]
structure OvF (P : Program) (f : FuncId) (tS : TypeId) : Prop where
 ok : ∃ fn tR, P.funcs[f]? = some fn ∧ (fn.name == "runtime.NumGoroutine") = false ∧ fn.body.isNone = true ∧ Extern.findNext fn = none ∧ Extern.find fn = some (Extern.SlicesOverlaps.overlaps #[tS, tS] #[tR])
section
variable {Γ : Cx} {k : List KI} {e : EA} {o : List Res} {N : NA} {c : Cls} {d : Tmp} {ty : TypeId} {x y z : Operand} {t u : TypeId} {kk : IntKind} {i : Int}
structure Ovl (o : List Res) (a b : AV) (k : Prop) : Prop where
 ok : ∃ (u v : Value) (s j m : Nat) (α : Type) (T sz : Nat) (l : List α) (f : α → List AV) (rest : List Res) (T' sz' : Nat) (L : List (List Value)) (m' : Nat) (rest' : List Res), a = .ow u ∧ b = .os v s j m ∧ Take o (arrR u T sz l f) rest ∧ Take rest (arrX v T' sz' L m') rest' ∧ 0 < sz' ∧ k
theorem Ovl.mk' {u v : Value} {s j m : Nat} {α : Type} {T sz : Nat} {l : List α} {f : α → List AV} {rest : List Res} {T' sz' : Nat} {L : List (List Value)} {m' : Nat} {rest' : List Res} {k : Prop} (h1 : Take o (arrR u T sz l f) rest) (h2 : Take rest (arrX v T' sz' L m') rest') (h3 : 0 < sz') (hk : k) : Ovl o (.ow u) (.os v s j m) k :=
 ⟨u, v, s, j, m, α, T, sz, l, f, rest, T', sz', L, m', rest', rfl, rfl, h1, h2, h3, hk⟩
theorem SA.ovl {f : FuncId} {tS : TypeId} (hf : OvF Γ.P f tS) {p : Nat × TI} (hp : slE Γ.tt tS = some p) {tys : Array TypeId} (hc : isLoud c = true) (h : Lk (evA e x) fun a => Lk (evA e y) fun b => Ovl o a b (N ((d, .val (.bool false)) :: e) o)) :
  SA Γ c (some d) (.call { callee := .value (.func f), args := #[x, y], argTypes := tys }) ty e o N := by
 obtain ⟨a, ha, b, hb, u, v, s, j, m, α, T, sz, l, g, rest, T', sz', L, m', rest', rfl, rfl, tk1, tk2, hsp, hn⟩ := h
 refine ⟨fun env hh G Os cn => ?_⟩
 obtain ⟨w1, g1, hw1, q1, l1, c1, hq1⟩ := cn.get ha
 obtain ⟨w2, g2, q2, l2, c2, rfl, hjm, rfl⟩ := cn.get hb
 subst hw1
 subst hq1
 obtain ⟨ti, t1, t2, t3⟩ := slE_spec hp
 obtain ⟨O, Os', cn2⟩ := cn.take tk1
 obtain ⟨⟨ho, rows, hw, hr⟩, hrest⟩ := cn2.hp.own
 obtain ⟨O', Os2, cn3⟩ := (show Con Γ ⟨e, rest⟩ env hh G Os' from ⟨cn2.hp.drop, cn2.env, cn2.nf⟩).take tk2
 obtain ⟨⟨ho', hv', hL', junk, hw'⟩, _⟩ := cn3.hp.own
 obtain ⟨fn, tR, hf1, hf2, hf3, hf4, hf5⟩ := hf.ok
 have hu := (Γ.ok.ok _ _ t1).slice t2
 have hzz := (Γ.ok.ok _ _ t3).run_size
 have key : ∀ w : World, w.heap = hh → (Extern.SlicesOverlaps.overlaps #[tS, tS] #[tR] #[.slice q1 l1 c1, .slice (subA q2 s j c2) m (c2 - j)]).run Γ.P w = .ok (.bool false) w := by
  intro w hwh
  rcases hw.ok with ⟨e1, e2⟩|⟨b1, of1, cap1, L1, e1, hb1, _, _, _⟩
  ·cases e1
   exact run_overlaps_none w tS tR p.1 hu p.2.size hzz _ _ _ _ _ _ (.inl rfl)
  ·cases e1
   rcases hw'.ok with ⟨e1, e2⟩|⟨b2, of2, cap2, L2, e1, hb2, k1, k2, _⟩
   ·cases e1
    refine run_overlaps_none w tS tR p.1 hu p.2.size hzz _ _ _ _ _ _ (.inr (.inl ?_))
    unfold subA;split <;> rfl
   ·cases e1
    by_cases h0 : l.length = 0 ∨ m = 0
    ·exact run_overlaps_none w tS tR p.1 hu p.2.size hzz _ _ _ _ _ _ (.inr (.inr h0))
    ·have hjc : j < m' := by omega
     have hsub : ∃ a, subA (some ⟨b2, of2, none⟩) s j c2 = some a ∧ a.block = b2 := by
      unfold subA
      split
      ·exact ⟨_, rfl, rfl⟩
      ·exact ⟨_, rfl, by simp [addr_add]⟩
     obtain ⟨a2, ha2, hab⟩ := hsub
     rw [ha2]
     have hB1 : w.heap[b1]? = some (.cells L1.toArray T (0, 0)) := hb1.heap hwh
     have hB2 : w.heap[b2]? = some (.cells L2.toArray T' (0, 0)) := hb2.heap hwh
     have hne : b1 ≠ b2 := fun h => by
      have h1 : O b1 := (ho b1).2 (by simp [blkOf])
      have h2 : O' b2 := (ho' b2).2 (by simp [blkOf])
      have hd := List.pairwise_cons.1 cn2.hp.d
      obtain ⟨O2, os2, r1, r2, r3⟩ := tk2.own cn2.hp.drop.own
      have h3 : O2 b2 := (r1.1 b2).2 (by simp [blkOf])
      exact hd.1 O2 (r3.mem_iff.2 (by simp)) b1 h1 (h ▸ h3)
     by_cases hk0 : L2.length = 0
     ·have h5 := Nat.mul_le_mul_right sz' k2
      have h6 : 0 < m' * sz' := Nat.mul_pos (by omega) hsp
      omega
     ·exact Go.Lib.run_overlaps_apart w tS tR p.1 hu p.2.size hzz ⟨b1, of1, none⟩ a2 l.length c1 m (c2 - j) (by rw [hab];exact hne) T T' L1.length L2.length (by simp [World.shape?, hB1]) (by rw [hab];simp [World.shape?, hB2]) hk0 (by simp [World.frozen?, hB1]) (by simp [World.frozen?, hB1])
 refine St.ofLd hc fun a w oo next Q ha' hwh hop hty hnn => ?_
 have hrun : (execOp a.eval (mkOp (.call { callee := .value (.func f), args := #[x, y], argTypes := tys }) ty)).run Γ.P w = .ok (.value (.bool false)) w := by
  have h1 := run_callFunc_extern hf1 hf2 hf3 hf4 hf5 #[.slice q1 l1 c1, .slice (subA q2 s j c2) m (c2 - j)] w
  rw [key w hwh] at h1
  simp [mkOp, execOp, resolve, invoke, Deferred.ofValue, ha'.ev g1, ha'.ev g2, ha'.ev (x := .func f) (v := .func (.func f) #[] #[]) rfl, h1]
 unfold Oper.wp
 rw [exec_mk, hop, hty, hrun]
 exact hnn _ w (Same.refl w) (hwh ▸ CN.mk (cn.put d (a := .val _) rfl) hn)
structure Cvk (q : TK) (i : Int) (M : IntKind → Int → Prop) : Prop where
 ok : ∃ k' r, q = .int k' ∧ k'.wrap i = r ∧ M k' r
theorem Cvk.i64 {q : TK} {i : Int} {M : IntKind → Int → Prop} (hq : q = .int .i64) (h : -9223372036854775808 ≤ i ∧ i ≤ 9223372036854775807) (hm : M .i64 i) : Cvk q i M := ⟨.i64, i, hq, wrap_i64 h, hm⟩
theorem Cvk.u8 {q : TK} {i : Int} {M : IntKind → Int → Prop} (hq : q = .int .u8) (h : 0 ≤ i ∧ i ≤ 255) (hm : M .u8 i) : Cvk q i M := ⟨.u8, i, hq, wrap_u8 h, hm⟩
theorem Cvk.u64 {q : TK} {i : Int} {M : IntKind → Int → Prop} (hq : q = .int .u64) (h : 0 ≤ i ∧ i ≤ 18446744073709551615) (hm : M .u64 i) : Cvk q i M := ⟨.u64, i, hq, by
 simp [IntKind.wrap, IntKind.signed, IntKind.bits];omega, hm⟩
instance (priority := 1100) {w : TypeId} : Sp (Ap1 Γ c d (.convert t w x) ty e o N x (.val (.int kk i))) (Lk (Γ.tt t) fun _ => Lk (Γ.tt w) fun ti => Cvk ti.kind i fun k' r => N ((d, .val (.int k' r)) :: e) o) := ⟨fun ⟨_, h1, _, h2, _, _, hq, hr, hn⟩ => puv1 (fun _ _ => rfl) hn fun _ _ _ h k => St.convert Γ.ok h1 h2 hq h hr k⟩
instance {k2 : IntKind} : Sp (Ap2 Γ c d (.binOp .shr t x y u) ty e o N x (.val (.int .u64 i)) y (.val (.int k2 1))) (N ((d, .val (.int .u64 (i / 2))) :: e) o) := ⟨fun hn => puv2 hn fun _ _ _ h h' k => St.shrN h h' (m := 1) rfl (by decide) (by rw [show (2 : Int) ^ 1 = 2 from rfl];exact k)⟩
end
end Go.CF
namespace Go.Proofs.YtmjllbjfkafhdaaGreatDoor
open Go Go.CF
set_option maxRecDepth 20000
theorem ovF_mark : OvF Tryz.prog 270 229 :=
 ⟨_, 4, Tryz.func270, by kernel_rfl, by kernel_rfl, by kernel_rfl, by kernel_rfl⟩
instance (priority := 2000) {T : Nat → Ord × (Nat → Cls)} {n : Nat} {rs : Array ResultVar} {K : AV → List Res → Prop} {h0 : Heap} {G0 O0 : Nat → Prop} {d : Tmp} {x y : Operand} {tys : Array TypeId} {ty : TypeId} {e : EA} {o : List Res} {N : NA} :
  Sp (SA ⟨Tryz.prog, tt, en, pg, T, n, rs, K, h0, G0, O0, ⟨none⟩⟩ .loud (some d) (.call { callee := .value (.func 270), args := #[x, y], argTypes := tys }) ty e o N)
   (Lk (evA e x) fun a => Lk (evA e y) fun b => Ovl o a b (N ((d, .val (.bool false)) :: e) o)) := ⟨fun h => SA.ovl ovF_mark (tS := 229) rfl rfl h⟩
theorem ins_eq {α : Type} {L : List α} {r : α} {i : Nat} (hi : i < L.length) (a b c : Nat) (ha : a = L.length - i) (hb : b = 1) (hc : c = 1) :
  (L.take (i + c) ++ (L.drop i).take a).take i ++ [r].take b ++ (L.take (i + c) ++ (L.drop i).take a).drop (i + b) = L.take i ++ r :: L.drop i := by
 subst ha;subst hb;subst hc
 have h1 : (L.drop i).take (L.length - i) = L.drop i := List.take_of_length_le (by simp)
 have h2 : (L.take (i + 1)).length = i + 1 := by simp;omega
 rw [h1, List.take_append_of_le_length (by omega), List.take_take, Nat.min_eq_left (by omega), List.drop_append_of_le_length (by omega), List.drop_of_length_le (by omega)]
 simp
theorem ins_eq2 {α : Type} {L : List α} {r : α} {i : Nat} (hi : i < L.length) (a b c d e g : Nat) (hg : g = i) (he : e = 1) (hd : d = L.length - i) (hb : b = L.length - i) (ha : a = i) (hc : c = 1) :
  (((L.take g).take a ++ [r].take e).take (i + c) ++ ((L.drop i).take d).take b) = L.take i ++ r :: L.drop i := by
 subst ha;subst hb;subst hc;subst hd;subst he;subst hg
 have h1 : (L.drop g).take (L.length - g) = L.drop g := List.take_of_length_le (by simp)
 rw [h1, h1, List.take_take, Nat.min_self, List.take_of_length_le (l := List.take g L ++ List.take 1 [r]) (by simp;omega)]
 simp
set_option maxHeartbeats 1000000 in
theorem insertV_a (w u : Value) (L : List (List Value)) (r : List Value) (i : Nat) (hi : i ≤ L.length) (hl : L.length ≤ 1000000) :
  CallA Tryz.prog 250 [.ow w, it i, .ow u] [arrR w 233 4 L valR, arrR u 233 4 [r] valR] fun q own => ∃ w', q = .ow w' ∧ own = [arrR w' 233 4 (L.take i ++ r :: L.drop i) valR] := by
 refine CallA.of pg ord250 Tryz.func250 rfl Tryz.ntmps250 Tryz.results250 rfl fun h0 G0 O0 => ?_
 have h1r : ([r] : List (List Value)).length = 1 := rfl
 by_cases hin : i = L.length
 ·subst hin
  rw [List.take_length, List.drop_length]
  repeat' (first|refine Sp.h ?_|refine Lk.r rfl ?_|refine Rf.mk rfl ?_|refine xA ?_|refine xB ?_|refine xP ?_|refine All.mk fun _=>?_|refine xU ?_|refine Ce.r ?_|refine xN ?_|refine Rf.mk ⟨rfl, rfl⟩ ?_|(apply Jx.r;(focus exact rfl);(focus first|omega|(simp;done)|(simp;omega)))|refine Mp.same ?_|fail)
  exact ⟨_, _, .one (.same (.z)), _, rfl, rfl⟩
 have hin : i < L.length := by omega
 by_cases hc : capV w < L.length + 1
 ·repeat' (first|refine Sp.h ?_|refine Lk.r rfl ?_|refine Rf.mk rfl ?_|refine xA ?_|refine xB ?_|refine Im.mk fun _=>?_|refine xU ?_|refine Rf.mk ⟨rfl, rfl⟩ ?_|refine Rf.mk ⟨rfl, rfl, rfl⟩ ?_|(apply Jx.r;(focus exact rfl);(focus first|omega|(simp;done)|(simp;omega)))|refine Mp.same ?_|refine xO ?_|fail)
  refine Jx.r (j := L.length + [r].length - i) (by omega) (by omega) ?_
  (repeat' (first|(show CA _ _ (Code.region 12 _ _) _ _;apply Stopped.out)|refine Sp.h ?_|refine Lk.r rfl ?_|refine Rf.mk rfl ?_|refine OpK.r rfl ?_|refine xP ?_|refine All.mk fun _=>?_|refine xU ?_|refine Rf.mk ⟨rfl, rfl⟩ ?_|refine Rf.mk ⟨rfl, rfl, rfl⟩ ?_|(apply Jx.r;(focus exact rfl);(focus first|omega|(simp;done)|(simp;omega)))|refine Mp.same ?_|refine xD ?_|refine xO ?_|(apply CpS.part;(focus (repeat constructor;done)))|(apply TkX.r;(focus repeat constructor))|fail));any_goals apply Stopped.mk
  apply CA.ofX 9
  focus rfl
  focus (repeat constructor)
  focus (simp;omega)
  repeat' (first|refine Sp.h ?_|refine Lk.r rfl ?_|refine Rf.mk rfl ?_|refine xN ?_|fail)
  rw [ins_eq2 hin _ _ _ _ _ _ (by omega) (by omega) (by omega) (by simp;omega) (by omega) h1r]
  exact ⟨_, _, .one (.same (.z)), _, rfl, rfl⟩
 ·(repeat' (first|(show CA _ _ (Code.region 13 _ _) _ _;apply Stopped.out)|refine Sp.h ?_|refine Lk.r rfl ?_|refine Rf.mk rfl ?_|refine xB ?_|refine Im.mk fun _=>?_|refine xU ?_|(apply Jx.r;(focus exact rfl);(focus first|omega|(simp;done)|(simp;omega)))|refine xO ?_|fail));any_goals apply Stopped.mk
  apply CA.toX 0
  focus rfl
  focus (repeat constructor)
  intro _
  (repeat' (first|(show CA _ _ (Code.region 16 _ _) _ _;apply Stopped.out)|refine Sp.h ?_|refine Lk.r rfl ?_|refine Rf.mk rfl ?_|refine xB ?_|refine OpK.r rfl ?_|refine xP ?_|refine Rf.mk ⟨rfl, rfl, rfl⟩ ?_|(apply Jx.r;(focus exact rfl);(focus first|omega|(simp;done)|(simp;omega)))|refine xD ?_|refine xO ?_|(apply CpS.part;(focus (repeat constructor;done)))|(apply TkX.r;(focus repeat constructor))|(apply ExX.long;(focus rfl);(focus first|omega|(simp <;> omega));(focus first|omega|(simp <;> omega)))|(apply Ovl.mk';(focus repeat constructor);(focus repeat constructor);(focus decide))|fail));any_goals apply Stopped.mk
  refine CA.sub ⟨[(0, .ow _), (1, it i), (2, .ow u)], [arrR _ 233 4 _ valR, arrR u 233 4 [r] valR]⟩ xE ?_
  repeat' (first|refine Sp.h ?_|refine Lk.r rfl ?_|refine Rf.mk rfl ?_|refine xU ?_|refine xN ?_|refine Rf.mk ⟨rfl, rfl, rfl⟩ ?_|(apply Jx.r;(focus exact rfl);(focus first|omega|(simp;done)|(simp;omega)))|refine Mp.same ?_|(apply CpS.all;(focus (repeat constructor;done)))|fail)
  rw [ins_eq hin _ _ _ (by omega) (by simp;omega) h1r]
  exact ⟨_, _, .one (.same (.z)), _, rfl, rfl⟩
end Go.Proofs.YtmjllbjfkafhdaaGreatDoor
namespace Go.Proofs.YtmjllbjfkafhdaaGreatDoor
open Go Go.CF
set_option maxRecDepth 20000
def idxN {α : Type} (p : α → Bool) : List α → Nat
 | [] => 0
 | a :: l => if p a then 0 else idxN p l + 1
def idxI {α : Type} (p : α → Bool) (l : List α) : Int := if idxN p l < l.length then idxN p l else -1
theorem idxN_of {α : Type} {p : α → Bool} : ∀ {l : List α} {i : Nat} {x : α}, l[i]? = some x → p x = true → (∀ j y, j < i → l[j]? = some y → p y = false) → idxN p l = i := by
 intro l
 induction l with
 | nil => intro i x h;cases h
 | cons a l ih =>
  intro i x h1 h2 h3
  cases i with
  | zero => cases h1;simp [idxN, h2]
  | succ i =>
   have := h3 0 a (by omega) rfl
   simp [idxN, this, ih h1 h2 fun j y hj hy => h3 (j + 1) y (by omega) hy]
theorem idxN_none {α : Type} {p : α → Bool} : ∀ {l : List α}, (∀ x ∈ l, p x = false) → idxN p l = l.length := by
 intro l
 induction l with
 | nil => intro _;rfl
 | cons a l ih => intro h;simp [idxN, h a (by simp), ih fun x hx => h x (by simp [hx])]
theorem idxN_at {α : Type} {p : α → Bool} : ∀ {l : List α}, idxN p l < l.length → ∃ x, l[idxN p l]? = some x ∧ p x = true ∧ ∀ j y, j < idxN p l → l[j]? = some y → p y = false := by
 intro l
 induction l with
 | nil => intro h;simp at h
 | cons a l ih =>
  intro h
  by_cases ha : p a = true
  ·exact ⟨a, by simp [idxN, ha], ha, fun j y hj => by simp [idxN, ha] at hj⟩
  ·have he : idxN p (a :: l) = idxN p l + 1 := by simp [idxN, ha]
   obtain ⟨x, h1, h2, h3⟩ := ih (by rw [he] at h;simpa using h)
   refine ⟨x, by rw [he];exact h1, h2, fun j y hj hy => ?_⟩
   cases j with
   | zero => cases hy;simpa using ha
   | succ j => exact h3 j y (by omega) hy
theorem idxN_le {α : Type} (p : α → Bool) : ∀ l : List α, idxN p l ≤ l.length := by
 intro l
 induction l with
 | nil => exact Nat.le_refl _
 | cons a l ih => simp only [idxN, List.length_cons];split <;> omega
theorem idx_mem {α : Type} {p : α → Bool} {e : α} : ∀ {l : List α}, e ∈ l → p e = true → idxN p l < l.length := by
 intro l
 induction l with
 | nil => intro h;cases h
 | cons a l ih =>
  intro h ho
  by_cases ha : p a = true
  ·simp [idxN, ha]
  ·rcases List.mem_cons.1 h with rfl|h9
   ·exact absurd ho ha
   ·simp [idxN, ha, ih h9 ho]
end Go.Proofs.YtmjllbjfkafhdaaGreatDoor
namespace Go.Proofs.YtmjllbjfkafhdaaGreatDoor
open Go Go.CF
set_option maxRecDepth 20000
abbrev mA (x : MkS) : AV := .agg (mkC x)
theorem indexK_p {g : FuncId} {cap : AV} {p : MkS → Bool} (hg : ∀ x, CallP Tryz.prog g [mA x, cap] (bl (p x))) (he : en g = true) (l : List MkS) :
  CallP Tryz.prog 269 [mks l, .fn g [cap]] (it (idxI p l)) := by
 refine CallA.of pg ord269 Tryz.func269 rfl Tryz.ntmps269 Tryz.results269 rfl fun h0 G0 O0 => ?_
 repeat' (first|refine Sp.h ?_|refine Lk.r rfl ?_|refine Rf.mk rfl ?_|refine Im.mk fun _=>?_|fail)
 refine CA.loop (fun i : Nat => ⟨[(0, mks l), (1, .fn g [cap]), (7, it (l.length : Nat)), (8, it i)], []⟩)
  (fun i => i ≤ l.length ∧ ∀ j y, j < i → l[j]? = some y → p y = false) (fun i => l.length - i) 0 xE ⟨Nat.zero_le _, fun j y h => by omega⟩ ?_
 rintro i ⟨hi, hj⟩
 by_cases hin : i < l.length
 ·obtain ⟨e, hx⟩ := get_of hin
  repeat' (first|refine Sp.h ?_|refine Lk.r rfl ?_|refine Rf.mk rfl ?_|refine xA ?_|(refine Bd.mk ?_ ?_ <;> intro _)|refine xI ?_|refine Ch.l ⟨rfl, rfl⟩ ?_|refine xN ?_|(apply Rf.mk;(focus assumption))|refine xO ?_|(apply Cl.p (hg e);focus repeat' constructor))
  ·rename_i hp
   exact Fin.p rfl (by rw [idxI, idxN_of hx hp hj, if_pos hin])
  ·rename_i hp
   refine PA.lp (i + 1) xE ⟨⟨hin, fun j y h1 h2 => ?_⟩, by omega⟩
   by_cases hij : j = i
   ·subst hij;rw [hx] at h2;cases h2;simpa using hp
   ·exact hj j y (by omega) h2
 ·repeat' (first|refine Sp.h ?_|refine Lk.r rfl ?_|refine Rf.mk rfl ?_|refine xB ?_|refine xN ?_|fail)
  exact Fin.p rfl (by rw [idxI, idxN_none (fun x hx => by obtain ⟨j, hx⟩ := List.getElem?_of_mem hx;exact hj j x (by have := (List.getElem?_eq_some_iff.1 hx).1;omega) hx), if_neg (by omega)])
theorem containsK_p {g : FuncId} {cap : AV} {p : MkS → Bool} (hg : ∀ x, CallP Tryz.prog g [mA x, cap] (bl (p x))) (he : en g = true) (l : List MkS) :
  CallP Tryz.prog 247 [mks l, .fn g [cap]] (bl (decide (idxN p l < l.length))) := by
 refine CallA.of pg ord247 Tryz.func247 rfl Tryz.ntmps247 Tryz.results247 rfl fun h0 G0 O0 => ?_
 repeat' (first|refine Sp.h ?_|refine Lk.r rfl ?_|refine Rf.mk rfl ?_|refine xN ?_|(apply Cl.p (indexK_p hg he l);focus repeat' constructor))
 refine Fin.p rfl (vb (decide_eq_decide.2 ?_))
 unfold idxI
 split <;> omega
theorem idxN_lt {α : Type} {p : α → Bool} {l : List α} : idxN p l < l.length ↔ ∃ x ∈ l, p x = true := by
 constructor
 ·intro h
  obtain ⟨x, h1, h2, _⟩ := idxN_at h
  exact ⟨x, List.mem_of_getElem? h1, h2⟩
 ·rintro ⟨x, hx, hp⟩
  refine Classical.byContradiction fun h => ?_
  have hle := idxN_le p l
  have he : idxN p l = l.length := by omega
  have key : ∀ l : List α, idxN p l = l.length → ∀ x ∈ l, p x = false := by
   intro l
   induction l with
   | nil => intro _ x h;cases h
   | cons a l ih =>
    intro h x hx
    by_cases ha : p a = true
    ·simp [idxN, ha] at h
    ·have ha' : p a = false := by simpa using ha
     simp [idxN, ha'] at h
     rcases List.mem_cons.1 hx with rfl|hx
     ·exact ha'
     ·exact ih h x hx
  rw [key l he x hx] at hp
  cases hp
def mkV (x : MkS) : List Value := [.int .i64 x.rep, .int .i64 x.num, .int .i64 x.time, .int .i64 x.val]
theorem mkV_map (l : List MkS) : (l.map mkV).map valR = l.map mkC := by rw [List.map_map];rfl
theorem filt_idx {α : Type} {p : α → Bool} : ∀ {l : List α}, idxN p l < l.length → (l.take (idxN p l + 1)).filter (fun x => !p x) = l.take (idxN p l) := by
 intro l
 induction l with
 | nil => intro h;simp at h
 | cons a l ih =>
  intro h
  by_cases ha : p a = true
  ·simp [idxN, ha]
  ·have ha' : p a = false := by simpa using ha
   have he : idxN p (a :: l) = idxN p l + 1 := by simp [idxN, ha']
   rw [he] at h ⊢
   have := ih (by simpa using h)
   rw [List.take_succ_cons, List.filter_cons, List.take_succ_cons, this]
   simp [ha']
set_option maxHeartbeats 1000000 in
theorem deleteK_a {g : FuncId} {cap : AV} {p : MkS → Bool} (hg : ∀ x, CallP Tryz.prog g [mA x, cap] (bl (p x))) (he : en g = true) (w : Value) (l : List MkS) (hl : l.length ≤ 1000000) :
  CallA Tryz.prog 272 [.ow w, .fn g [cap]] [arrR w 233 4 l mkC] fun q own => ∃ w', q = .ow w' ∧ own = [arrR w' 233 4 (l.filter fun x => !p x) mkC] := by
 have hix := indexK_p hg he l
 refine CallA.of pg ord272 Tryz.func272 rfl Tryz.ntmps272 Tryz.results272 rfl fun h0 G0 O0 => ?_
 repeat' (first|refine Sp.h ?_|refine Lk.r rfl ?_|refine Rf.mk rfl ?_|fail)
 (apply Cl.lend (hix);(focus repeat' (first|exact Lend.nil|apply Lend.keep|(apply Lend.lend;(focus repeat constructor);(focus first|omega|(simp;omega)))|fail)))
 by_cases hn : idxN p l < l.length
 ·have hI : idxI p l = (idxN p l : Nat) := if_pos hn
  rw [hI]
  repeat' (first|refine Sp.h ?_|refine Lk.r rfl ?_|refine Rf.mk rfl ?_|refine xB ?_|refine xO ?_|fail)
  refine CA.loop (fun x : Nat × Nat × List MkS => ⟨[(0, .ow w), (1, .fn g [cap]), (5, it x.1), (6, it x.2.1)], [arrR w 233 4 x.2.2 mkC]⟩)
   (fun x => x.1 < x.2.1 ∧ x.2.1 ≤ l.length ∧ x.2.2.length = l.length ∧ x.2.2.take x.1 = (l.take x.2.1).filter (fun x => !p x) ∧ x.2.2.drop x.2.1 = l.drop x.2.1) (fun x => l.length - x.2.1) (idxN p l, idxN p l + 1, l) xE ⟨Nat.lt_succ_self _, hn, rfl, (filt_idx hn).symm, rfl⟩ ?_
  rintro ⟨i, j, cur⟩ ⟨h1, h2, h3, h4, h5⟩
  simp only at h1 h2 h3 h4 h5
  simp only
  by_cases hj : j < l.length
  ·obtain ⟨x, hx⟩ := get_of hj
   have hcx : cur[j]? = some x := by
    have := congrArg (fun z => z[0]?) h5
    simpa [List.getElem?_drop, hx] using this
   obtain ⟨y, hy⟩ := get_of (l := cur) (i := i) (by omega)
   have h6 : cur.drop (j + 1) = l.drop (j + 1) := by rw [← List.drop_drop, h5, List.drop_drop]
   have h7 : l.take (j + 1) = l.take j ++ [x] := by rw [List.take_add_one, hx];rfl
   repeat' (first|refine Sp.h ?_|refine Lk.r rfl ?_|refine Rf.mk rfl ?_|refine xA ?_|(refine Bd.mk ?_ ?_ <;> intro _)|refine All.mk fun _=>?_|refine xU ?_|refine xT ?_|refine xI ?_|refine xJ ?_|refine Ch.l ⟨rfl, rfl⟩ ?_|(apply SetAsk.r;focus repeat' constructor)|refine xN ?_|refine Up.r rfl ?_|(apply Rf.mk;(focus assumption))|refine xO ?_|(apply Cl.p (hg x);focus repeat' constructor))
   ·rename_i hp
    exact PA.lp (i, j + 1, cur) xE ⟨⟨by simp only;omega, hj, h3, by simp only;rw [h7, List.filter_append, h4];simp [hp], h6⟩, by simp only;omega⟩
   ·rename_i hp
    have hp : p x = false := by simpa using hp
    have h8 : (cur.set i x).take (i + 1) = cur.take i ++ [x] := by
     rw [List.take_add_one, List.getElem?_set, if_pos rfl, if_pos (by omega), List.take_set_of_le (Nat.le_refl _)];rfl
    exact PA.lp (i + 1, j + 1, cur.set i x) xE ⟨⟨by simp only;omega, hj, by simp only;rw [List.length_set];exact h3, by simp only;rw [h7, List.filter_append, h8, h4];simp [hp], by simp only;rw [List.drop_set_of_lt (by omega)];exact h6⟩, by simp only;omega⟩
  ·have hje : j = l.length := by omega
   subst hje
   rw [List.take_length] at h4
   (repeat' (first|(show CA _ _ (Code.region 11 _ _) _ _;apply Stopped.out)|refine Sp.h ?_|refine Lk.r rfl ?_|refine Rf.mk rfl ?_|refine xB ?_|refine xU ?_|fail));any_goals apply Stopped.mk
   apply CA.retype (m := cur.map mkV) (g := valR)
   focus (repeat constructor)
   focus exact mkV_map cur
   apply CA.toX 0
   focus rfl
   focus (repeat constructor)
   intro hcap
   rw [List.length_map] at hcap
   (repeat' (first|(show CA _ _ Code.ret _ _;apply Stopped.out)|refine Sp.h ?_|refine Lk.r rfl ?_|refine Rf.mk rfl ?_|refine xP ?_|refine Rf.mk ⟨rfl, rfl⟩ ?_|refine Rf.mk ⟨rfl, rfl, rfl⟩ ?_|(apply Jx.r;(focus exact rfl);(focus first|omega|(simp;done)|(simp;omega)))|(apply TkX.r;(focus repeat constructor))|(apply ExX.short;(focus rfl);(focus first|omega|(simp <;> omega));(focus first|omega|(simp <;> omega)))|fail));any_goals apply Stopped.mk
   apply CA.retype (m := l.filter fun x => !p x) (g := mkC)
   focus (repeat constructor)
   focus (rw [← h4, ← mkV_map, List.map_take];simp [List.take_take])
   repeat' (first|refine Sp.h ?_|refine Lk.r rfl ?_|refine xN ?_|fail)
   exact ⟨_, _, .one (.same (.z)), _, rfl, rfl⟩
 ·have hI : idxI p l = -1 := if_neg hn
  have hall : l.filter (fun x => !p x) = l := List.filter_eq_self.2 fun x hx => by
   have h9 : ¬ ∃ x ∈ l, p x = true := fun h => hn (idxN_lt.2 h)
   cases hpx : p x
   ·rfl
   ·exact absurd ⟨x, hx, hpx⟩ h9
  rw [hI, hall]
  repeat' (first|refine Sp.h ?_|refine Lk.r rfl ?_|refine Rf.mk rfl ?_|refine xA ?_|refine xN ?_|fail)
  exact ⟨_, _, .one (.same (.z)), _, rfl, rfl⟩
end Go.Proofs.YtmjllbjfkafhdaaGreatDoor
namespace Go.CF
open Go
def bunR (rs : List Res) : Res :=
  ⟨fun h O G => ∃ Os, OwnL h G rs Os ∧ Apart Os ∧ ∀ b, O b ↔ U Os b,
   fun {_ _ _ _} x ⟨Os, h1, h2, h3⟩ => ⟨Os, OwnL.stp (fun O' hO' => x.mono fun b hb => hb.imp (fun h => (h3 b).2 ⟨O', hO', h⟩) id) h1, h2, h3⟩,
   fun x ⟨Os, h1, h2, h3⟩ => ⟨Os, h1.mono x, h2, h3⟩,
   fun ⟨Os, h1, _, h3⟩ b hb => let ⟨O, hO, h4⟩ := (h3 b).1 hb;h1.nc O hO b h4⟩
section
variable {h0 : Heap} {G0 O0 : Nat → Prop} {h : Heap} {G : Nat → Prop} {Os : List (Nat → Prop)} {rs rest : List Res} {O : Nat → Prop}
theorem HpOK.unbun (c : HpOK h0 G0 O0 (bunR rs :: rest) h G (O :: Os)) : ∃ Os', OwnL h G rs Os' ∧ HpOK h0 G0 O0 (rs ++ rest) h G (Os' ++ Os) := by
 obtain ⟨⟨Os', h1, h2, h3⟩, hrest⟩ := c.own
 have hd := List.pairwise_cons.1 c.d
 refine ⟨Os', h1, h1.app hrest, c.g, c.g0, fun X hX b hb => ?_, List.pairwise_append.2 ⟨h2, hd.2, fun A hA B hB b ha hb => hd.1 B hB b ((h3 b).2 ⟨A, hA, ha⟩) hb⟩, c.fp⟩
 rcases List.mem_append.1 hX with hX|hX
 ·exact c.o O (by simp) b ((h3 b).2 ⟨X, hX, hb⟩)
 ·exact c.o X (by simp [hX]) b hb
theorem HpOK.bun {Os1 Os2 : List (Nat → Prop)} (c : HpOK h0 G0 O0 (rs ++ rest) h G (Os1 ++ Os2)) (h1 : OwnL h G rs Os1) (h2 : OwnL h G rest Os2) : HpOK h0 G0 O0 (bunR rs :: rest) h G (U Os1 :: Os2) := by
 obtain ⟨d1, d2, d3⟩ := List.pairwise_append.1 c.d
 refine ⟨⟨⟨Os1, h1, d1, fun b => Iff.rfl⟩, h2⟩, c.g, c.g0, fun X hX b hb => ?_, List.pairwise_cons.2 ⟨fun B hB b ⟨A, hA, ha⟩ hb => d3 A hA B hB b ha hb, d2⟩, c.fp⟩
 rcases List.mem_cons.1 hX with rfl|hX
 ·obtain ⟨A, hA, ha⟩ := hb
  exact c.o A (by simp [hA]) b ha
 ·exact c.o X (by simp [hX]) b hb
end
section
variable {Γ : Cx} {k : List KI} {e : EA} {o : List Res} {α : Type} {l : List α} {g : α → Res}
theorem CA.bunTake {y : Code} {i : Nat} {x : α} {rest : List Res} (tk : Take o (bunR (l.map g)) rest) (hx : l[i]? = some x) (h : CA Γ k y e (g x :: bunR ((l.eraseIdx i).map g) :: rest)) : CA Γ k y e o := by
 refine ⟨fun env hh G Os cn => ?_⟩
 obtain ⟨O, Os', cn2⟩ := cn.take tk
 obtain ⟨Os1, g1, g2⟩ := cn2.hp.unbun
 have hil := (List.getElem?_eq_some_iff.1 hx).1
 have hsp : l = l.take i ++ x :: l.drop (i + 1) := by
  have h9 := List.drop_eq_getElem_cons hil
  rw [(List.getElem?_eq_some_iff.1 hx).2] at h9
  rw [← h9, List.take_append_drop]
 have hrest := cn2.hp.own.2
 rw [hsp, List.map_append, List.map_cons] at g1
 obtain ⟨A, B, rfl, a1, a2⟩ := OwnL.split g1
 match B, a2 with
 | X :: B, ⟨b1, b2⟩ =>
  have hp : (A ++ X :: B ++ Os').Perm (X :: ((A ++ B) ++ Os')) := by
   rw [List.append_assoc, List.cons_append]
   exact List.perm_middle.trans (by rw [List.append_assoc])
  have herase : (l.eraseIdx i).map g = (l.take i).map g ++ (l.drop (i + 1)).map g := by rw [List.eraseIdx_eq_take_drop_succ, List.map_append]
  have c3 : HpOK Γ.h0 Γ.G0 Γ.O0 (g x :: ((l.eraseIdx i).map g ++ rest)) hh G (X :: ((A ++ B) ++ Os')) :=
   g2.perm ⟨b1, by rw [herase];exact (a1.app b2).app hrest⟩ hp
  have c4 : HpOK Γ.h0 Γ.G0 Γ.O0 (((l.eraseIdx i).map g) ++ (g x :: rest)) hh G ((A ++ B) ++ (X :: Os')) :=
   c3.perm (by rw [herase];exact (a1.app b2).app ⟨b1, hrest⟩) List.perm_middle.symm
  have c5 := c4.bun (by rw [herase];exact a1.app b2) ⟨b1, hrest⟩
  have c6 : HpOK Γ.h0 Γ.G0 Γ.O0 (g x :: bunR ((l.eraseIdx i).map g) :: rest) hh G (X :: U (A ++ B) :: Os') :=
   c5.perm ⟨b1, c5.own.1, hrest⟩ (List.Perm.swap _ _ _)
  exact h.h env hh G _ ⟨c6, cn.env, cn.nf⟩
theorem CA.bunPush {y : Code} {x : α} {rest1 rest2 : List Res} (tk1 : Take o (bunR (l.map g)) rest1) (tk2 : Take rest1 (g x) rest2) (h : CA Γ k y e (bunR ((l ++ [x]).map g) :: rest2)) : CA Γ k y e o := by
 refine ⟨fun env hh G Os cn => ?_⟩
 obtain ⟨O, Os', cn2⟩ := cn.take tk1
 obtain ⟨X, Os2, r1, r2, r3⟩ := tk2.own cn2.hp.own.2
 have c2 : HpOK Γ.h0 Γ.G0 Γ.O0 (bunR (l.map g) :: g x :: rest2) hh G (O :: X :: Os2) := cn2.hp.perm ⟨cn2.hp.own.1, r1, r2⟩ (List.Perm.cons O r3)
 obtain ⟨A, g1, g2⟩ := c2.unbun
 have c3 : HpOK Γ.h0 Γ.G0 Γ.O0 ((l.map g ++ [g x]) ++ rest2) hh G ((A ++ [X]) ++ Os2) := by
  rw [List.append_assoc, List.append_assoc];exact g2
 have c4 := c3.bun (g1.app (r1 := l.map g) (r2 := [g x]) ⟨r1, trivial⟩) r2
 rw [show l.map g ++ [g x] = (l ++ [x]).map g by simp] at c4
 exact h.h env hh G _ ⟨c4, cn.env, cn.nf⟩
theorem CA.bunPut {y : Code} {i : Nat} {x : α} {rest1 rest2 : List Res} (tk1 : Take o (bunR ((l.eraseIdx i).map g)) rest1) (tk2 : Take rest1 (g x) rest2) (hi : i < l.length) (h : CA Γ k y e (bunR ((l.set i x).map g) :: rest2)) : CA Γ k y e o := by
 refine ⟨fun env hh G Os cn => ?_⟩
 obtain ⟨O, Os', cn2⟩ := cn.take tk1
 obtain ⟨X, Os2, r1, r2, r3⟩ := tk2.own cn2.hp.own.2
 have c2 : HpOK Γ.h0 Γ.G0 Γ.O0 (bunR ((l.eraseIdx i).map g) :: g x :: rest2) hh G (O :: X :: Os2) := cn2.hp.perm ⟨cn2.hp.own.1, r1, r2⟩ (List.Perm.cons O r3)
 obtain ⟨A, g1, g2⟩ := c2.unbun
 have herase : (l.eraseIdx i).map g = (l.take i).map g ++ (l.drop (i + 1)).map g := by rw [List.eraseIdx_eq_take_drop_succ, List.map_append]
 have hset : (l.set i x).map g = (l.take i).map g ++ g x :: (l.drop (i + 1)).map g := by
  rw [List.set_eq_take_append_cons_drop, if_pos hi, List.map_append, List.map_cons]
 rw [herase] at g1 g2
 obtain ⟨B, C, rfl, b1, b2⟩ := OwnL.split g1
 have hp : (B ++ C ++ X :: Os2).Perm ((B ++ X :: C) ++ Os2) := by
  rw [List.append_assoc, List.append_assoc, List.cons_append]
  exact List.Perm.append_left B List.perm_middle
 have c3 : HpOK Γ.h0 Γ.G0 Γ.O0 ((l.set i x).map g ++ rest2) hh G ((B ++ X :: C) ++ Os2) := g2.perm (by rw [hset];exact OwnL.app (OwnL.app b1 (show OwnL hh G (g x :: (l.drop (i + 1)).map g) (X :: C) from ⟨r1, b2⟩)) r2) hp
 have c4 := c3.bun (by rw [hset];exact OwnL.app b1 (show OwnL hh G (g x :: (l.drop (i + 1)).map g) (X :: C) from ⟨r1, b2⟩)) r2
 exact h.h env hh G _ ⟨c4, cn.env, cn.nf⟩
theorem CA.bunNil {y : Code} (g : α → Res) (h : CA Γ k y e (bunR (([] : List α).map g) :: o)) : CA Γ k y e o := by
 refine ⟨fun env hh G Os cn => ?_⟩
 have c4 : HpOK Γ.h0 Γ.G0 Γ.O0 (bunR (([] : List α).map g) :: o) hh G (U [] :: Os) := HpOK.bun (rs := []) (Os1 := []) cn.hp trivial cn.hp.own
 exact h.h env hh G _ ⟨c4, cn.env, cn.nf⟩
end
end Go.CF
namespace Go.Proofs.YtmjllbjfkafhdaaGreatDoor
open Go Go.CF
set_option maxRecDepth 20000
theorem cloneK_o (l : List MkS) (hl : l.length ≤ 1000000000) : CallO Tryz.prog 167 [mks l] 233 4 l mkC := by
 refine CallA.of pg ord167 Tryz.func167 rfl Tryz.ntmps167 Tryz.results167 rfl fun h0 G0 O0 => ?_
 repeat' (first|refine Sp.h ?_|refine Lk.r rfl ?_|refine Rf.mk rfl ?_|(refine Bd.mk ?_ ?_ <;> intro _)|refine xP ?_|refine Im.mk fun _=>?_|refine All.mk fun _=>?_|refine xU ?_|refine Ce.l rfl ?_|(apply Fk.r;focus repeat' first|infer_instance|constructor)|refine xN ?_|refine Rf.mk ⟨rfl, rfl⟩ ?_|refine Rf.mk ⟨rfl, rfl, rfl⟩ ?_|refine Mp.same ?_|fail)
 ·rename_i b hb hbt
  have hl0 : l = [] := Decidable.byContradiction fun h => by rw [hb h] at hbt;cases hbt
  subst hl0
  exact ⟨_, _, .one (.nils (.z)), _, rfl, rfl⟩
 ·repeat' (first|fail)
  exact ⟨_, _, .one (.same (.z)), _, rfl, rfl⟩
theorem cloneG_o (l : List MgS) (hl : l.length ≤ 1000000000) : CallO Tryz.prog 166 [mgs l] 231 3 l mgC := by
 refine CallA.of pg ord166 Tryz.func166 rfl Tryz.ntmps166 Tryz.results166 rfl fun h0 G0 O0 => ?_
 repeat' (first|refine Sp.h ?_|refine Lk.r rfl ?_|refine Rf.mk rfl ?_|(refine Bd.mk ?_ ?_ <;> intro _)|refine xP ?_|refine Im.mk fun _=>?_|refine All.mk fun _=>?_|refine xU ?_|refine Ce.l rfl ?_|(apply Fk.r;focus repeat' first|infer_instance|constructor)|refine xN ?_|refine Rf.mk ⟨rfl, rfl⟩ ?_|refine Rf.mk ⟨rfl, rfl, rfl⟩ ?_|refine Mp.same ?_|fail)
 ·rename_i b hb hbt
  have hl0 : l = [] := Decidable.byContradiction fun h => by rw [hb h] at hbt;cases hbt
  subst hl0
  exact ⟨_, _, .one (.nils (.z)), _, rfl, rfl⟩
 ·repeat' (first|fail)
  exact ⟨_, _, .one (.same (.z)), _, rfl, rfl⟩
structure MgE where
 put : Bool
 drop : Bool
 w : Value
 marks : List MkS
def MgE.g (e : MgE) : MgS := ⟨e.put, e.drop, e.marks⟩
def mgeC (e : MgE) : List AV := [bl e.put, bl e.drop, .ow e.w]
abbrev mgeR (e : MgE) : Res := arrR e.w 233 4 e.marks mkC
def ogC (x : Bool × Bool × AV) : List AV := [bl x.1, bl x.2.1, x.2.2]
instance {a b : Bool} {c : AV} : Inv ogC [bl a, bl b, c] (a, b, c) := ⟨rfl⟩
def ogE (e : MgE) : Bool × Bool × AV := (e.put, e.drop, .ow e.w)
def ogG (g : MgS) : Bool × Bool × AV := (g.put, g.drop, mks g.marks)
theorem ogE_map (l : List MgE) : l.map mgeC = (l.map ogE).map ogC := by rw [List.map_map];rfl
theorem ogG_map (l : List MgS) : (l.map ogG).map ogC = l.map mgC := by rw [List.map_map];rfl
abbrev outR (v : Value) (L : List MgE) : List Res := [arrR v 231 3 L mgeC, bunR (L.map mgeR)]
theorem clone34_a (l : List MgS) (hl : l.length ≤ 1000000) (hm : ∀ g ∈ l, g.marks.length ≤ 1000000) :
  CallA Tryz.prog 161 [mgs l] [] fun r own => ∃ v L, r = .ow v ∧ L.map MgE.g = l ∧ own = outR v L := by
 have hc := cloneG_o l (by omega)
 refine CallA.of pg ord161 Tryz.func161 rfl Tryz.ntmps161 Tryz.results161 rfl fun h0 G0 O0 => ?_
 repeat' (first|refine Sp.h ?_|refine Lk.r rfl ?_|refine Rf.mk rfl ?_|fail)
 (refine Cl.use (hc) (by repeat' (first|exact Lend.nil|apply Lend.keep|fail)) .nil rfl ?_;rintro _ _ ⟨_, rfl, rfl⟩)
 repeat' (first|refine Sp.h ?_|refine Lk.r rfl ?_|refine Rf.mk rfl ?_|refine xU ?_|fail)
 rename_i v
 apply CA.retype (m := l.map ogG) (g := ogC)
 focus (repeat constructor)
 focus exact ogG_map l
 refine CA.bunNil mgeR ?_
 refine CA.loop (fun x : Nat × List MgE => ⟨[(3, .ow v), (8, it (l.length : Nat)), (9, it x.1)], [arrR v 231 3 (x.2.map ogE ++ (l.drop x.1).map ogG) ogC, bunR (x.2.map mgeR)]⟩)
  (fun x => x.1 ≤ l.length ∧ x.2.map MgE.g = l.take x.1) (fun x => l.length - x.1) (0, []) xE ⟨Nat.zero_le _, by simp⟩ ?_
 rintro ⟨i, D⟩ ⟨hi, hD⟩
 simp only at hi hD
 simp only
 by_cases hin : i < l.length
 ·obtain ⟨g, hg⟩ := get_of hin
  have hgm := hm g (List.mem_of_getElem? hg)
  have hDl : D.length = i := by have := congrArg List.length hD;simp at this;omega
  have hdr : (l.drop i).map ogG = ogG g :: (l.drop (i + 1)).map ogG := by
   have h9 := List.drop_eq_getElem_cons hin
   rw [(List.getElem?_eq_some_iff.1 hg).2] at h9
   rw [h9, List.map_cons]
  have hrow : (D.map ogE ++ (l.drop i).map ogG)[i]? = some (g.put, g.drop, mks g.marks) := by
   rw [hdr, List.getElem?_append_right (by simp;omega)];simp [hDl, ogG]
  have hcl := cloneK_o g.marks (by omega)
  repeat' (first|refine Sp.h ?_|refine Lk.r rfl ?_|refine Rf.mk rfl ?_|refine xA ?_|refine xU ?_|refine xI ?_|refine xJ ?_|fail)
  (refine Cl.use (hcl) (by repeat' (first|exact Lend.nil|apply Lend.keep|fail)) .nil rfl ?_;rintro _ _ ⟨_, rfl, rfl⟩)
  (repeat' (first|(show CA _ _ (Code.region 6 _ _) _ _;apply Stopped.out)|refine Sp.h ?_|refine Lk.r rfl ?_|refine Rf.mk rfl ?_|refine xU ?_|refine xI ?_|refine xJ ?_|refine xV ?_|(apply Up.inv;(focus repeat constructor);(focus infer_instance))|fail));any_goals apply Stopped.mk
  rename_i w2
  have hset : (D.map ogE ++ (l.drop i).map ogG).set i (g.put, g.drop, .ow w2) = (D ++ [(MgE.mk g.put g.drop w2 g.marks)]).map ogE ++ (l.drop (i + 1)).map ogG := by
   rw [hdr, List.set_append, if_neg (by simp;omega)]
   simp [hDl, ogE]
  rw [hset]
  apply CA.bunPush (g := mgeR) (x := (MgE.mk g.put g.drop w2 g.marks))
  focus (repeat constructor)
  focus (repeat constructor)
  repeat' (first|refine Sp.h ?_|refine Lk.r rfl ?_|refine Rf.mk rfl ?_|refine xO ?_|fail)
  exact PA.lp (i + 1, D ++ [(MgE.mk g.put g.drop w2 g.marks)]) xE ⟨⟨hin, by simp only;rw [List.map_append, hD, List.take_add_one, hg];rfl⟩, by simp only;omega⟩
 ·have hie : i = l.length := by omega
  subst hie
  rw [List.take_length] at hD
  rw [List.drop_length, List.map_nil, List.append_nil]
  (repeat' (first|(show CA _ _ (Code.region 7 _ _) _ _;apply Stopped.out)|refine Sp.h ?_|refine Lk.r rfl ?_|refine Rf.mk rfl ?_|refine xB ?_|fail));any_goals apply Stopped.mk
  apply CA.retype (m := D) (g := mgeC)
  focus (repeat constructor)
  focus exact ogE_map D
  repeat' (first|refine Sp.h ?_|refine Lk.r rfl ?_|refine Rf.mk rfl ?_|refine xN ?_|fail)
  exact ⟨_, _, .one (.same (.z)), _, D, rfl, hD, rfl⟩
end Go.Proofs.YtmjllbjfkafhdaaGreatDoor
