/- How calls lie in a list, and small facts of matrices of clocks; conditions: the lists lie in the heap. -/
import Derived.Test.YtaopehadegknoaaKn7
namespace Go.Proofs.Ytaopehadegknoaa
open Go Go.CF
set_option maxRecDepth 20000

theorem kact_at {h : Heap} {F : Nat → Prop} {b o len cap : Nat} {l : List KAct} (hs : Rp.kact.slice.R h F [.slice (some ⟨b, o, none⟩) len cap] l) {i : Nat} {a : KAct} (hi : l[i]? = some a) :
    ∃ (pc : Option Addr) (capc : Nat) (pp : Option Addr) (capp : Nat) (pr : Option Addr) (capr : Nat),
      Rp.kact.R h F [.int .i64 a.kind, .int .i64 a.rep, .slice pc a.clk.length capc, .int .i64 a.ev.rep, .int .i64 a.ev.num, .int .i64 a.ev.time, .slice pp a.ev.past.length capp, .int .i64 a.ev.kind, .int .i64 a.ev.action, .int .i64 a.ev.gk, .int .i64 a.ev.gi, .int .i64 a.ev.ge, .int .i64 a.ev.ga, .int .i64 a.ev.to, .int .i64 a.ev.place, .int .i64 a.ev.serial, .slice pr a.rows.length capr] a ∧
      Cels h ⟨b, o + i * 17, none⟩ [.int .i64 a.kind, .int .i64 a.rep, .slice pc a.clk.length capc, .int .i64 a.ev.rep, .int .i64 a.ev.num, .int .i64 a.ev.time, .slice pp a.ev.past.length capp, .int .i64 a.ev.kind, .int .i64 a.ev.action, .int .i64 a.ev.gk, .int .i64 a.ev.gi, .int .i64 a.ev.ge, .int .i64 a.ev.ga, .int .i64 a.ev.to, .int .i64 a.ev.place, .int .i64 a.ev.serial, .slice pr a.rows.length capr] := by
  obtain ⟨row, hr, hc⟩ := sliceR_cels hs hi
  obtain ⟨cv, pv, rv, rfl, hk, hp, hl, _⟩ := kactR hr
  obtain ⟨pc, capc, rfl⟩ := hk.s.sl.shape
  obtain ⟨pp, capp, rfl⟩ := hp.s.sl.shape
  obtain ⟨pr, capr, er⟩ := sliceR_shape hl
  simp only [List.cons.injEq, and_true] at er
  subst er
  exact ⟨pc, capc, pp, capp, pr, capr, hr, hc⟩
theorem kacts_val {h : Heap} {F : Nat → Prop} {len cap : Nat} {p : Option Addr} {l : List KAct} (hs : Rp.kact.slice.R h F [.slice p len cap] l) (hi : 0 < l.length) : ∃ b o, p = some ⟨b, o, none⟩ ∧ len = l.length := by
  rcases sliceR_cases hs with ⟨h1, _⟩ | ⟨b, o, cap', h1, h2, _, h3, h4⟩
  · rw [h1] at hi; simp at hi
  · simp only [List.cons.injEq, Value.slice.injEq, and_true] at h1
    exact ⟨b, o, h1.1, h1.2.1⟩
theorem take_mat {n : Nat} {A B : List (List Int)} (hB : Mat n B) : take n A B = (mx A B, 0) := by
  unfold take
  rw [if_pos ⟨hB.1, fun c hc => ⟨(hB.2 c hc).1, by have := (hB.2 c hc).2; omega⟩⟩]
  rfl
theorem stpOne {h h' h'' : Heap} {K : Nat} (s : Stp [] h h') (x : Stp [K] h' h'') (hK : h.size ≤ K) : Stp [] h h'' := Stp.stp x s (fun c hc => .inr (by simp at hc; omega))

theorem notes_succ {n i : Nat} {Z : List (List Int)} {l : List KAct} {a : KAct} (ha : l[i]? = some a) : notes n Z (l.take (i + 1)) = noted n (notes n Z (l.take i)) a := by
  simp [notes, List.take_add_one, ha, List.foldl_append]

theorem alk2 {n : Nat} {x y : List Int} (hx : vln n x) (hy : vln n y) : alk [x, y] := ⟨by simp, fun e he => by
  simp at he
  rcases he with rfl | rfl
  · exact ⟨hx.1, rfl⟩
  · exact ⟨hy.1, by rw [hy.2]; exact hx.2.symm⟩⟩

theorem mat_alk {n : Nat} {A : List (List Int)} (hn : 1 ≤ n) (hA : Mat n A) : alk A ∧ (A.headD []).length = n := by
  cases A with
  | nil => have := hA.1; simp at this; omega
  | cons a A =>
    have h1 := (hA.2 a (by simp)).2
    exact ⟨⟨by simp, fun c hc => ⟨(hA.2 c hc).1, by rw [(hA.2 c hc).2]; exact h1.symm⟩⟩, h1⟩

end Go.Proofs.Ytaopehadegknoaa
