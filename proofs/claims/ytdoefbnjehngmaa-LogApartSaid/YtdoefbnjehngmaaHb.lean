/- Plain law of LogApart; conditions: none. -/
import Derived.Test.YtdoefbnjehngmaaGv
import Derived.Test.YtdoefbnjehngmaaHa
import Derived.Test.YtdoefbnjehngmaaGy
namespace Go.Proofs.Ytdoefbnjehngmaa
open Go Go.CF
set_option maxRecDepth 20000

def votE (T : Nat) : Ent := ⟨T, 2, 0, 0, 0, [0, 1]⟩
def ldS (T : Nat) (l : List Ent) : LogS := { n := 3, i := 0, ents := l ++ [emptyE T], commit := 0, leads := T, nx := fun _ => l.length + 1, mt := fun _ => 0 }
def lpS (T : Nat) (l : List Ent) : LogS := { n := 3, i := 0, ents := l ++ [emptyE T, votE T], commit := 0, leads := T, nx := fun _ => l.length + 1, mt := fun _ => 0 }
theorem apart_lead {T : Nat} {l : List Ent} (hT : 1 ≤ T ∧ T ≤ 1048576) (ht : termAt l l.length ≤ T) (hl : l.length < 1024) : leadR (log0 3 0 l) T = (ldS T l, (l.length : Int) + 1, 0) := by
  have h1 : ¬ ((T : Int) < 1 ∨ 1048576 < (T : Int) ∨ (T : Int) < termAt (log0 3 0 l).ents (log0 3 0 l).ents.length) := by
    show ¬ (_ ∨ _ ∨ (T : Int) < termAt l l.length)
    omega
  unfold leadR
  rw [if_neg h1, if_neg (by show ¬ 1024 ≤ l.length; omega)]
  rfl
theorem apart_tm {T : Nat} {l : List Ent} (h : ∀ e ∈ l, e.term ≤ T) : LogTm (ldS T l) := fun _ e he => by
  rcases List.mem_append.1 he with h1 | h1
  · exact h e h1
  · simp at h1; subst h1; exact Int.le_refl _
theorem vot01 {n : Int} (hn : 2 ≤ n) : votOK n [0, 1] := by
  refine ⟨fun j x hj hx => ?_, by simp⟩
  have hc : j = 0 ∨ j = 1 := by simp at hj; omega
  rcases hc with rfl | rfl
  · simp at hx; subst hx; exact ⟨by omega, by omega, fun y hy => by omega⟩
  · simp at hx; subst hx; exact ⟨by omega, by omega, fun y _ hy => by simp at hy; omega⟩
def pv0 : Ent := ⟨0, 2, 0, 0, 0, [0, 1]⟩
theorem apart_prop {T : Nat} {l : List Ent} (hT : 1 ≤ T ∧ T ≤ 1048576) (hl : l.length ≤ 40) : proposeR (ldS T l) pv0 = (lpS T l, (l.length : Int) + 2, 0) := by
  have hr : rightE (ldS T l).n (pv0.at_ (ldS T l).leads) := ⟨⟨by simp [pv0, Ent.at_, ldS]; omega, by simp [pv0, Ent.at_, ldS]; omega⟩, .inr (.inr ⟨rfl, ⟨rfl, rfl, rfl⟩, vot01 (by show (2 : Int) ≤ 3; omega)⟩)⟩
  have hll : (ldS T l).ents.length = l.length + 1 := by simp [ldS]
  unfold proposeR
  rw [if_neg (by show ¬ T = 0; omega), if_neg (fun h => h.elim (by simp [pv0]) (fun h => h hr)), if_neg (by omega), hll]
  simp only [Prod.mk.injEq, and_true]
  refine ⟨?_, by omega⟩
  show ({ ldS T l with ents := (l ++ [emptyE T]) ++ [votE T] } : LogS) = _
  rw [List.append_assoc]; rfl
theorem apart_send {T : Nat} {l : List Ent} : (sendM (lpS T l) 1).ents = [emptyE T, votE T] := by
  show ((l ++ [emptyE T, votE T]).drop (l.length + 1 - 1)).take 16 = _
  rw [Nat.add_sub_cancel, List.drop_left]; rfl
/-- What stands while the two logs are filled. -/
structure Ap1 (h0 h' : Heap) (A B V P T : Nat) (l : List Ent) (x : Nat) : Prop where
  ex : ∃ OA OB, LogAt h' A (if 1 ≤ x then lpS T l else log0 3 0 l) OA ∧ LogAt h' B (if 2 ≤ x then lpS T l else log0 3 0 l) OB ∧ (∀ b, OA b → h0.size ≤ b ∧ ¬ OB b ∧ b ≠ V ∧ b ≠ P) ∧ (∀ b, OB b → h0.size ≤ b ∧ b ≠ V ∧ b ≠ P)
  bV : Blk h' V 3 [.int .i64 0, .int .i64 1]
  bP : ∃ t, Blk h' P t [.pointer (some ⟨A, 0, none⟩), .pointer (some ⟨B, 0, none⟩)]
  fp : FP (fun b => h0.size ≤ b) h0 h'
  x2 : x ≤ 2
  v : h0.size ≤ V ∧ h0.size ≤ P
theorem Ap1.step {h0 h' : Heap} {A B V P T : Nat} {l : List Ent} {x : Nat} (H : Ap1 h0 h' A B V P T l x) (hx : x < 2) :
    ∃ K O, Cel h' ⟨P, x, none⟩ (.pointer (some ⟨K, 0, none⟩)) ∧ LogAt h' K (log0 3 0 l) O ∧ (∀ b, O b → h0.size ≤ b ∧ b ≠ V) ∧
      ∀ h'' O2, FP O h' h'' → LogAt h'' K (lpS T l) O2 → (∀ b, O2 b → O b ∨ h'.size ≤ b) → Ap1 h0 h'' A B V P T l (x + 1) := by
  obtain ⟨OA, OB, kA, kB, hA, hB⟩ := H.ex
  obtain ⟨tp, hP⟩ := H.bP
  have hV := H.bV
  have hc : x = 0 ∨ x = 1 := by omega
  rcases hc with rfl | rfl
  · refine ⟨A, OA, hP.cel (o := 0) rfl, kA, fun b hb => ⟨(hA b hb).1, (hA b hb).2.2.1⟩, fun h'' O2 f k2 ho => ⟨⟨O2, OB, k2, kB.fp f (fun b hb hf => (hA b hf).2.1 hb), fun b hb => ?_, fun b hb => hB b hb⟩, hV.fp f (fun hf => (hA V hf).2.2.1 rfl), ⟨tp, hP.fp f (fun hf => (hA P hf).2.2.2 rfl)⟩, H.fp.trans f (fun b hb => .inl (hA b hb).1), by omega, H.v⟩⟩
    rcases ho b hb with h9 | h9
    · exact hA b h9
    · have g1 := hV.lt
      have g2 := hP.lt
      exact ⟨by have := H.fp.size; omega, fun h8 => by have := kB.old b h8; omega, by omega, by omega⟩
  · refine ⟨B, OB, hP.cel (o := 1) rfl, kB, fun b hb => ⟨(hB b hb).1, (hB b hb).2.1⟩, fun h'' O2 f k2 ho => ⟨⟨OA, O2, kA.fp f (fun b hb hf => (hA b hb).2.1 hf), k2, fun b hb => ⟨(hA b hb).1, fun h8 => ?_, (hA b hb).2.2⟩, fun b hb => ?_⟩, hV.fp f (fun hf => (hB V hf).2.1 rfl), ⟨tp, hP.fp f (fun hf => (hB P hf).2.2 rfl)⟩, H.fp.trans f (fun b hb => .inl (hB b hb).1), by omega, H.v⟩⟩
    · rcases ho b h8 with h9 | h9
      · exact (hA b hb).2.1 h9
      · have := kA.old b hb; omega
    · rcases ho b hb with h9 | h9
      · exact hB b h9
      · have g1 := hV.lt
        have g2 := hP.lt
        exact ⟨by have := H.fp.size; omega, by omega, by omega⟩
end Go.Proofs.Ytdoefbnjehngmaa
