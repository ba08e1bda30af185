/- The plain law behind FrontHeld and FrontPasses; kind; a round's beginning. -/
import Derived.Test.YtdmhlnjlbcapoaaFrK
namespace Go.Proofs.Ytdmhlnjlbcapoaa
open Go.RowKit
def kindOf (x : Int) : Int := wrap64 ((IntKind.u64.wrap x).tmod 6)
theorem kindOf_range (x : Int) : 0 ≤ kindOf x ∧ kindOf x ≤ 5 := by
  have h0 : 0 ≤ IntKind.u64.wrap x := by rw [IntKind.wrap_u64]; exact Int.emod_nonneg _ (by decide)
  unfold kindOf
  rw [Int.tmod_eq_emod_of_nonneg h0]
  have := Int.emod_nonneg (IntKind.u64.wrap x) (show (6 : Int) ≠ 0 by decide)
  have := Int.emod_lt_of_pos (IntKind.u64.wrap x) (show (0 : Int) < 6 by decide)
  unfold wrap64
  omega
theorem kind_any (a b : Int) (d : ByteArray) (w : World) : Calls Try.prog 22 #[.agg #[.int .i64 a, .int .i64 b, .string d]] w fun e w' => e = .returned (.int .i64 (kindOf a)) ∧ B w w' := by
  go_enter Try.func22, Try.ntmps22
  go_wp2
  go_ret
  exact ⟨rfl, by (repeat (first | assumption | exact B_refl _ | refine B_drewN ?_ _ | refine B_drew ?_ | refine B_alloc ?_ _ | refine B_setCell ?_ (by first | (simp; done) | (simp; omega)) _ | refine B_trans ?_ (by assumption)))⟩

theorem onDo3' (s k : Int) (h : onDo s k = 3) : onTo s k = s ∧ (s = 2 ∨ s = 4) := by
  obtain ⟨c0, c1⟩ := colOf_range k
  unfold onDo at h
  unfold onTo
  generalize colOf k = c at *
  by_cases hs : s < 0 ∨ 7 ≤ s
  · rw [if_pos hs] at h; cases h
  · rw [if_neg hs] at h ⊢
    rcases (show s = 0 ∨ s = 1 ∨ s = 2 ∨ s = 3 ∨ s = 4 ∨ s = 5 ∨ s = 6 by omega) with rfl | rfl | rfl | rfl | rfl | rfl | rfl <;>
      rcases (show c = 0 ∨ c = 1 ∨ c = 2 ∨ c = 3 ∨ c = 4 ∨ c = 5 by omega) with rfl | rfl | rfl | rfl | rfl | rfl <;>
        first | (exfalso; revert h; decide) | decide
theorem on6 (k : Int) : onTo 6 k = 6 ∧ onDo 6 k = 0 := by
  obtain ⟨c0, c1⟩ := colOf_range k
  unfold onDo onTo
  generalize colOf k = c at *
  rcases (show c = 0 ∨ c = 1 ∨ c = 2 ∨ c = 3 ∨ c = 4 ∨ c = 5 by omega) with rfl | rfl | rfl | rfl | rfl | rfl <;> decide
theorem take6 (x : Int × ByteArray) : takeOf 6 [] x = (6, 0, []) := by
  unfold takeOf
  obtain ⟨h1, h2⟩ := on6 x.1
  rw [h1, h2, if_neg (by decide), if_pos rfl]
theorem take_is (st : Int) (hs : List (Int × ByteArray)) (x : Int × ByteArray) {st' what : Int} {hs' : List (Int × ByteArray)} (h : takeOf st hs x = (st', what, hs')) :
    (what = 3 → st' = st ∧ (st = 2 ∨ st = 4) ∧ hs' = hs ++ [x] ∧ hs.length < 4) ∧ (what ≠ 3 → (hs' = [] ∨ hs' = hs) ∧ (st' = 6 → hs' = [])) := by
  unfold takeOf at h
  by_cases hw : onDo st x.1 = 3
  · rw [if_pos hw] at h
    by_cases hl : hs.length < 4
    · rw [if_pos hl] at h
      simp only [Prod.mk.injEq] at h
      obtain ⟨rfl, rfl, rfl⟩ := h
      obtain ⟨h1, h2⟩ := onDo3' st x.1 hw
      exact ⟨fun _ => ⟨h1, h2, rfl, hl⟩, fun h => absurd rfl h⟩
    · rw [if_neg hl] at h
      split at h <;> (simp only [Prod.mk.injEq] at h; obtain ⟨rfl, rfl, rfl⟩ := h; exact ⟨fun h => absurd h (by decide), fun _ => ⟨.inl rfl, fun _ => rfl⟩⟩)
  · rw [if_neg hw] at h
    simp only [Prod.mk.injEq] at h
    obtain ⟨rfl, rfl, rfl⟩ := h
    refine ⟨fun h => absurd h hw, fun _ => ⟨?_, fun h6 => by rw [if_pos h6]⟩⟩
    split
    · exact .inl rfl
    · exact .inr rfl
/-- what a front keeps to -/
def Keeps (st : Int) (hs : List (Int × ByteArray)) : Prop := hs.length ≤ 4 ∧ (st = 6 → hs = [])
theorem Keeps.take {st : Int} {hs : List (Int × ByteArray)} {x : Int × ByteArray} {st' what : Int} {hs' : List (Int × ByteArray)} (hk : Keeps st hs) (h : takeOf st hs x = (st', what, hs')) : Keeps st' hs' := by
  obtain ⟨h1, h2⟩ := take_is st hs x h
  by_cases hw : what = 3
  · obtain ⟨rfl, h3, rfl, h4⟩ := h1 hw
    exact ⟨by simp; omega, fun h => by omega⟩
  · obtain ⟨h3, h4⟩ := h2 hw
    refine ⟨?_, h4⟩
    rcases h3 with rfl | rfl
    · simp
    · exact hk.1
theorem Keeps.tail {st : Int} {hs : List (Int × ByteArray)} {x : Int × ByteArray} (hk : Keeps st (x :: hs)) : Keeps st hs := ⟨by have := hk.1; simp at this; omega, fun h => by have := hk.2 h; cases this⟩
theorem Keeps.call {st : Int} {hs : List (Int × ByteArray)} (hk : Keeps st hs) (n : Int) : Keeps (callOf st hs n).2.1 (callOf st hs n).2.2 := by
  unfold callOf
  by_cases h0 : n = 0
  · rw [if_pos h0]
    refine ⟨hk.1, fun h => hk.2 ?_⟩
    simp only [mv] at h
    split at h <;> omega
  · rw [if_neg h0]
    by_cases h1 : n = 1
    · rw [if_pos h1]
      refine ⟨hk.1, fun h => hk.2 ?_⟩
      simp only [mv] at h
      split at h <;> omega
    · rw [if_neg h1]
      by_cases h2 : n = 2
      · rw [if_pos h2]
        refine ⟨hk.1, fun h => hk.2 ?_⟩
        simp only [abortTo] at h
        split at h
        · omega
        · split at h <;> omega
      · rw [if_neg h2]
        simp only [quitHs]
        refine ⟨?_, fun _ => ?_⟩
        · split
          · exact hk.1
          · simp
        · split
          · rename_i h; exact hk.2 h
          · rfl
theorem call6 (n : Int) : callOf 6 [] n = (false, 6, []) := by
  unfold callOf
  by_cases h0 : n = 0
  · rw [if_pos h0]; rfl
  · rw [if_neg h0]
    by_cases h1 : n = 1
    · rw [if_pos h1]; rfl
    · rw [if_neg h1]
      by_cases h2 : n = 2
      · rw [if_pos h2]; rfl
      · rw [if_neg h2]; rfl
end Go.Proofs.Ytdmhlnjlbcapoaa
