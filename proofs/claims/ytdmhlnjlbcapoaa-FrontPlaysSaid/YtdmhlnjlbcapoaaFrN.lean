/- FrontPasses: what the law's call comes to. -/
import Derived.Test.YtdmhlnjlbcapoaaFrM
namespace Go.Proofs.Ytdmhlnjlbcapoaa
open Go.RowKit
theorem on_passes (s k : Int) : (onDo s k = 4 → s = 3 ∧ 3 ≤ k ∧ k ≤ 5 ∧ (onTo s k == 3) = (k == 3)) ∧ (5 ≤ onDo s k → onTo s k = 6) ∧ (onDo s k < 4 → s ≠ 3 ∧ onTo s k ≠ 3) ∧ 0 ≤ onDo s k ∧ onDo s k ≤ 8 := by
  by_cases hs : s < 0 ∨ 7 ≤ s
  · have e1 : onTo s k = s := by simp [onTo, hs]
    have e2 : onDo s k = 0 := by simp [onDo, hs]
    rw [e1, e2]
    exact ⟨fun h => absurd h (by decide), fun h => absurd h (by decide), fun _ => ⟨by omega, by omega⟩, by decide, by decide⟩
  · have e1 : onTo s k = (cellAt s (colOf k)).1 := by simp [onTo, hs]
    have e2 : onDo s k = (cellAt s (colOf k)).2 := by simp [onDo, hs]
    rw [e1, e2]
    clear e1 e2
    rcases (show k = 1 ∨ k = 2 ∨ k = 3 ∨ k = 4 ∨ k = 5 ∨ k = 8 ∨ (k ≠ 1 ∧ k ≠ 2 ∧ k ≠ 3 ∧ k ≠ 4 ∧ k ≠ 5 ∧ k ≠ 8) by omega) with rfl | rfl | rfl | rfl | rfl | rfl | ⟨k1, k2, k3, k4, k5, k8⟩
    case inr.inr.inr.inr.inr.inr =>
      have hc : colOf k = 5 := by simp [colOf, *]
      rw [hc]
      rcases (show s = 0 ∨ s = 1 ∨ s = 2 ∨ s = 3 ∨ s = 4 ∨ s = 5 ∨ s = 6 by omega) with rfl | rfl | rfl | rfl | rfl | rfl | rfl
      all_goals exact ⟨fun h => absurd h (by decide), by decide, by decide, by decide, by decide⟩
    all_goals
      rcases (show s = 0 ∨ s = 1 ∨ s = 2 ∨ s = 3 ∨ s = 4 ∨ s = 5 ∨ s = 6 by omega) with rfl | rfl | rfl | rfl | rfl | rfl | rfl
      all_goals decide
theorem take_passes (st : Int) (hs : List (Int × ByteArray)) (x : Int × ByteArray) {st' what : Int} {hs' : List (Int × ByteArray)} (h : takeOf st hs x = (st', what, hs')) :
    (what = 4 ∧ st = 3 ∧ 3 ≤ x.1 ∧ x.1 ≤ 5 ∧ (st' == 3) = (x.1 == 3)) ∨ ((what = 5 ∨ what = 6 ∨ what = 7 ∨ what = 8) ∧ st' = 6) ∨ ((what = 0 ∨ what = 1 ∨ what = 2 ∨ what = 3) ∧ (st == 3) = false ∧ (st' == 3) = false) := by
  obtain ⟨p4, p5, p3, p0, p8⟩ := on_passes st x.1
  unfold takeOf at h
  by_cases hw : onDo st x.1 = 3
  · rw [if_pos hw] at h
    obtain ⟨h1, h2⟩ := p3 (by omega)
    by_cases hl : hs.length < 4
    · rw [if_pos hl] at h
      simp only [Prod.mk.injEq] at h
      obtain ⟨rfl, rfl, rfl⟩ := h
      exact .inr (.inr ⟨.inr (.inr (.inr rfl)), by simp [h1], by simp [h2]⟩)
    · rw [if_neg hl] at h
      split at h
      · simp only [Prod.mk.injEq] at h
        obtain ⟨rfl, rfl, rfl⟩ := h
        exact .inr (.inl ⟨.inr (.inr (.inl rfl)), rfl⟩)
      · simp only [Prod.mk.injEq] at h
        obtain ⟨rfl, rfl, rfl⟩ := h
        exact .inr (.inl ⟨.inr (.inr (.inr rfl)), rfl⟩)
  · rw [if_neg hw] at h
    simp only [Prod.mk.injEq] at h
    obtain ⟨rfl, rfl, rfl⟩ := h
    rcases (show onDo st x.1 = 4 ∨ 5 ≤ onDo st x.1 ∨ onDo st x.1 < 4 by omega) with h | h | h
    · exact .inl ⟨h, p4 h⟩
    · exact .inr (.inl ⟨by omega, p5 h⟩)
    · obtain ⟨h1, h2⟩ := p3 h
      exact .inr (.inr ⟨by omega, by simp [h1], by simp [h2]⟩)
theorem call_passes (st : Int) (hs : List (Int × ByteArray)) (n : Int) {did : Bool} {st' : Int} {hs' : List (Int × ByteArray)} (h : callOf st hs n = (did, st', hs')) :
    (did = true → (st' == 3) = (n == 0)) ∧ (did = false → st' = st) := by
  unfold callOf at h
  by_cases h0 : n = 0
  · rw [if_pos h0] at h
    simp only [Prod.mk.injEq] at h
    obtain ⟨rfl, rfl, rfl⟩ := h
    subst h0
    exact ⟨fun h => by rw [h]; rfl, fun h => by rw [h]; rfl⟩
  · rw [if_neg h0] at h
    have e0 : (n == 0) = false := by simp [h0]
    rw [e0]
    by_cases h1 : n = 1
    · rw [if_pos h1] at h
      simp only [Prod.mk.injEq] at h
      obtain ⟨rfl, rfl, rfl⟩ := h
      exact ⟨fun h => by rw [h]; rfl, fun h => by rw [h]; rfl⟩
    · rw [if_neg h1] at h
      by_cases h2 : n = 2
      · rw [if_pos h2] at h
        simp only [Prod.mk.injEq] at h
        obtain ⟨rfl, rfl, rfl⟩ := h
        unfold abortDid abortTo
        by_cases a4 : st = 4
        · subst a4; exact ⟨fun _ => rfl, fun h => by revert h; decide⟩
        · by_cases a23 : st = 2 ∨ st = 3
          · rw [if_neg a4, if_pos a23]
            exact ⟨fun _ => rfl, fun h => by simp [a4] at h; omega⟩
          · rw [if_neg a4, if_neg a23]
            exact ⟨fun h => by simp [a4] at h; omega, fun _ => rfl⟩
      · rw [if_neg h2] at h
        simp only [Prod.mk.injEq] at h
        obtain ⟨rfl, rfl, rfl⟩ := h
        exact ⟨fun _ => rfl, fun h => by simp at h; exact h.symm⟩
end Go.Proofs.Ytdmhlnjlbcapoaa
