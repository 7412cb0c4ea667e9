/- awake of law 43; conditions: none. -/
import Derived.Test.YtdoefbnjehngmaaGr
namespace Go.Proofs.Ytdoefbnjehngmaa
open Go Go.CF
set_option maxRecDepth 20000

theorem valE_of {n : Int} {l : List Ent} (h1 : ∀ e ∈ l, rightE n e) (h2 : l.Pairwise fun a b => a.term ≤ b.term) (h3 : l.length ≤ 1024) : valE n l := by
  refine ⟨fun j e hj he => ⟨h1 e (List.mem_of_getElem? he), fun e' hp he' => ?_⟩, h3⟩
  have g1 := List.getElem?_eq_some_iff.1 he
  have g2 := List.getElem?_eq_some_iff.1 he'
  obtain ⟨i1, rfl⟩ := g1
  obtain ⟨i2, rfl⟩ := g2
  exact List.pairwise_iff_getElem.1 h2 (j - 1) j i2 i1 (by omega)
def wA : List Ent := termsL [1, 1]
def wB : List Ent := termsL [1]
def wM1 : Msg := { kind := 7, frm := 0, to := 1, term := 2, index := 2, logt := 1, commit := 0, granted := false, ents := [emptyE 2] }
def wM2 : Msg := { kind := 7, frm := 0, to := 1, term := 2, index := 1, logt := 1, commit := 0, granted := false, ents := [tmE (1, 1), emptyE 2] }
def wR1 : Msg := { kind := 8, frm := 1, to := 0, term := 2, index := 1, logt := 0, commit := 0, granted := false, ents := [] }
def wR2 : Msg := { kind := 8, frm := 1, to := 0, term := 2, index := 3, logt := 0, commit := 0, granted := true, ents := [] }
def wa0 : LogS := log0 2 0 wA
def wa1 : LogS := leadS wa0 2
def wa2 : LogS := { wa1 with nx := upF wa1.nx 1 2 }
def wb0 : LogS := log0 2 1 wB
def wb2 : LogS := { wb0 with ents := wa1.ents }
theorem rightT (x : Nat) (hx : x ≤ 10) : rightE 2 (tmE (1, x)) := ⟨by simp [tmE], .inr (.inl ⟨rfl, rfl, by simp [tmE], by simp [tmE], by simp [tmE]; omega, by simp [tmE]; omega, by simp [tmE], by simp [tmE]⟩)⟩
theorem rightZ : rightE 2 (emptyE 2) := ⟨by simp [emptyE], .inl ⟨rfl, ⟨rfl, rfl, rfl⟩, rfl⟩⟩
theorem wA_val : valE (2 : Nat) wA := valE_of (by simp [wA, termsL]; exact ⟨rightT 0 (by omega), rightT 1 (by omega)⟩) (by simp [wA, termsL, tmE]) (by simp [wA, termsL])
theorem wB_val : valE (2 : Nat) wB := valE_of (by simp [wB, termsL]; exact rightT 0 (by omega)) (by simp [wB, termsL]) (by simp [wB, termsL])
theorem w_lead : leadR wa0 2 = (wa1, 3, 0) := rfl
theorem w_send1 : sendM wa1 1 = wM1 := rfl
theorem w_app1 : appendedR wa1 wR1 = wa2 := rfl
theorem w_send2 : sendM wa2 1 = wM2 := rfl
theorem w_fit1 : fitM wb0 wM1 := ⟨⟨rfl, rfl, ⟨by decide, by decide, by decide⟩, by decide, by decide⟩, valE_of (by simp [wM1]; exact rightZ) (by simp [wM1]) (by simp [wM1]), by simp [fitB, wM1, emptyE], by simp [fitC, wM1]⟩
theorem w_fit2 : fitM wb0 wM2 := ⟨⟨rfl, rfl, ⟨by decide, by decide, by decide⟩, by decide, by decide⟩, valE_of (by simp [wM2]; exact ⟨rightT 1 (by omega), rightZ⟩) (by simp [wM2, tmE, emptyE]) (by simp [wM2]), by simp [fitB, wM2, emptyE, tmE], by simp [fitC, wM2]⟩
theorem w_ap1 : ApR wb0 wM1 wb0 wR1 0 0 := .off w_fit1 rfl (.inl (by decide))
theorem w_ap2 : ApR wb0 wM2 wb2 wR2 2 0 := by
  refine ApR.put (g := wb0) (m := wM2) 0 ⟨w_fit2, rfl, by decide, rfl⟩ (by decide) (fun j hj => by omega) (fun ⟨e, a, h1, h2, h3⟩ => ?_) (by decide) (by decide)
  have : wb0.ents[wM2.index.toNat + 0]? = none := rfl
  rw [this] at h2; cases h2
end Go.Proofs.Ytdoefbnjehngmaa
