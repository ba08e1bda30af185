/- FrontOn and FrontNil: what the law's call comes to. -/
import Derived.Test.YtdmhlnjlbcapoaaFrG
namespace Go.Proofs.Ytdmhlnjlbcapoaa
open Go.RowKit
/-- the states' names -/
def nameOf (s : Int) : ByteArray :=
  if s = 0 then ⟨#[110, 101, 119]⟩ else if s = 1 then ⟨#[105, 100, 108, 101]⟩ else if s = 2 then ⟨#[119, 97, 105, 116, 105, 110, 103]⟩ else if s = 3 then ⟨#[98, 111, 117, 110, 100]⟩
  else if s = 4 then ⟨#[101, 110, 100, 105, 110, 103]⟩ else if s = 5 then ⟨#[115, 107, 105, 112, 112, 105, 110, 103]⟩ else if s = 6 then ⟨#[99, 108, 111, 115, 101, 100]⟩ else ⟨#[]⟩
theorem nameOf_out (s : Int) (h : s < 0 ∨ 6 < s) : nameOf s = ⟨#[]⟩ := by
  unfold nameOf
  rw [if_neg (by omega), if_neg (by omega), if_neg (by omega), if_neg (by omega), if_neg (by omega), if_neg (by omega), if_neg (by omega)]
theorem name_any (s : Int) (w : World) : Calls Try.prog 19 #[.int .i64 s] w fun e w' => e = .returned (.string (nameOf s)) ∧ B w w' := by
  rcases (show s < 0 ∨ 7 ≤ s ∨ s = 0 ∨ s = 1 ∨ s = 2 ∨ s = 3 ∨ s = 4 ∨ s = 5 ∨ s = 6 by omega) with h | h | rfl | rfl | rfl | rfl | rfl | rfl | rfl
  · rw [nameOf_out s (.inl h)]
    go_enter Try.func19, Try.ntmps19
    go_wp2
    go_ret
    exact ⟨rfl, by (repeat (first | assumption | exact B_refl _ | refine B_drewN ?_ _ | refine B_drew ?_ | refine B_alloc ?_ _ | refine B_setCell ?_ (by first | (simp; done) | (simp; omega)) _ | refine B_trans ?_ (by assumption)))⟩
  · rw [nameOf_out s (.inr h)]
    go_enter Try.func19, Try.ntmps19
    go_wp2
    go_ret
    exact ⟨rfl, by (repeat (first | assumption | exact B_refl _ | refine B_drewN ?_ _ | refine B_drew ?_ | refine B_alloc ?_ _ | refine B_setCell ?_ (by first | (simp; done) | (simp; omega)) _ | refine B_trans ?_ (by assumption)))⟩
  all_goals
    go_enter Try.func19, Try.ntmps19
    go_wp2
    go_ret
    exact ⟨rfl, by (repeat (first | assumption | exact B_refl _ | refine B_drewN ?_ _ | refine B_drew ?_ | refine B_alloc ?_ _ | refine B_setCell ?_ (by first | (simp; done) | (simp; omega)) _ | refine B_trans ?_ (by assumption)))⟩
theorem refname_any (s : Int) (w : World) : Calls Try.prog 20 #[.int .i64 s] w fun e w' => e = .returned (.string (nameOf s)) ∧ B w w' := by
  rcases (show s < 0 ∨ 6 < s ∨ s = 0 ∨ s = 1 ∨ s = 2 ∨ s = 3 ∨ s = 4 ∨ s = 5 ∨ s = 6 by omega) with h | h | rfl | rfl | rfl | rfl | rfl | rfl | rfl
  · rw [nameOf_out s (.inl h)]
    go_enter Try.func20, Try.ntmps20
    go_wp2
    go_ret
    exact ⟨rfl, by (repeat (first | assumption | exact B_refl _ | refine B_drewN ?_ _ | refine B_drew ?_ | refine B_alloc ?_ _ | refine B_setCell ?_ (by first | (simp; done) | (simp; omega)) _ | refine B_trans ?_ (by assumption)))⟩
  · rw [nameOf_out s (.inr h)]
    go_enter Try.func20, Try.ntmps20
    go_wp2
    go_ret
    exact ⟨rfl, by (repeat (first | assumption | exact B_refl _ | refine B_drewN ?_ _ | refine B_drew ?_ | refine B_alloc ?_ _ | refine B_setCell ?_ (by first | (simp; done) | (simp; omega)) _ | refine B_trans ?_ (by assumption)))⟩
  all_goals
    go_enter Try.func20, Try.ntmps20
    go_wp2
    go_ret
    exact ⟨rfl, by (repeat (first | assumption | exact B_refl _ | refine B_drewN ?_ _ | refine B_drew ?_ | refine B_alloc ?_ _ | refine B_setCell ?_ (by first | (simp; done) | (simp; omega)) _ | refine B_trans ?_ (by assumption)))⟩
theorem refon_any (s k : Int) (w : World) : Calls Try.prog 18 #[.int .i64 s, .int .i64 k] w fun e w' => e = .returned (.tuple #[.int .i64 (onTo s k), .int .i64 (onDo s k)]) ∧ w = w' := by
  by_cases hs : s < 0 ∨ 7 ≤ s
  · have e1 : onTo s k = s := by simp [onTo, hs]
    have e2 : onDo s k = 0 := by simp [onDo, hs]
    rw [e1, e2]
    clear e1 e2
    go_enter Try.func18, Try.ntmps18
    go_wp2
    all_goals
      go_ret2
      exact ⟨rfl, rfl⟩
  · rcases (show s = 0 ∨ s = 1 ∨ s = 2 ∨ s = 3 ∨ s = 4 ∨ s = 5 ∨ s = 6 by omega) with rfl | rfl | rfl | rfl | rfl | rfl | rfl
    all_goals
      clear hs
      go_enter Try.func18, Try.ntmps18
      go_wp2
      all_goals
        go_ret2
        refine ⟨?_, rfl⟩
        rcases (show k = 1 ∨ k = 2 ∨ k = 3 ∨ k = 4 ∨ k = 5 ∨ k = 8 ∨ (k ≠ 1 ∧ k ≠ 2 ∧ k ≠ 3 ∧ k ≠ 4 ∧ k ≠ 5 ∧ k ≠ 8) by omega) with rfl | rfl | rfl | rfl | rfl | rfl | ⟨k1, k2, k3, k4, k5, k8⟩
        all_goals first
          | rfl
          | (exfalso; simp_all; done)
          | (exfalso; simp_all; omega)
          | (have hc : colOf k = 5 := by simp [colOf, *]
             first
               | (show _ = Ending.returned (.tuple #[.int .i64 (cellAt 0 (colOf k)).1, .int .i64 (cellAt 0 (colOf k)).2]); rw [hc]; rfl)
               | (show _ = Ending.returned (.tuple #[.int .i64 (cellAt 1 (colOf k)).1, .int .i64 (cellAt 1 (colOf k)).2]); rw [hc]; rfl)
               | (show _ = Ending.returned (.tuple #[.int .i64 (cellAt 2 (colOf k)).1, .int .i64 (cellAt 2 (colOf k)).2]); rw [hc]; rfl)
               | (show _ = Ending.returned (.tuple #[.int .i64 (cellAt 3 (colOf k)).1, .int .i64 (cellAt 3 (colOf k)).2]); rw [hc]; rfl)
               | (show _ = Ending.returned (.tuple #[.int .i64 (cellAt 4 (colOf k)).1, .int .i64 (cellAt 4 (colOf k)).2]); rw [hc]; rfl)
               | (show _ = Ending.returned (.tuple #[.int .i64 (cellAt 5 (colOf k)).1, .int .i64 (cellAt 5 (colOf k)).2]); rw [hc]; rfl)
               | (show _ = Ending.returned (.tuple #[.int .i64 (cellAt 6 (colOf k)).1, .int .i64 (cellAt 6 (colOf k)).2]); rw [hc]; rfl))
theorem walk_FrontOn (w : World) (s : Int) (_ : (Lit.int .i64 s).wf = true) (k : Int) (_ : (Lit.int .i64 k).wf = true) :
    Calls Try.prog 4 #[.int .i64 s, .int .i64 k] w fun e w' => e = .returned (.bool true) ∧ B w w' := by
  go_enter Try.func4, Try.ntmps4
  go_wp2_with (first | (go_at_call 9; refine (lives_any _).mono ?_; rintro e w1 ⟨rfl, hb1⟩) | (go_at_call 17; refine (on_any s k _).mono ?_; rintro e w2 ⟨rfl, hb2⟩) | (go_at_call 18; refine (refon_any s k _).mono ?_; rintro e w2 ⟨rfl, rfl⟩) | (go_at_call 19; refine (name_any s _).mono ?_; rintro e w3 ⟨rfl, hb3⟩) | (go_at_call 20; refine (refname_any s _).mono ?_; rintro e w4 ⟨rfl, hb4⟩))
  go_ret
  exact ⟨rfl, by (repeat (first | assumption | exact B_refl _ | refine B_drewN ?_ _ | refine B_drew ?_ | refine B_alloc ?_ _ | refine B_setCell ?_ (by first | (simp; done) | (simp; omega)) _ | refine B_trans ?_ (by assumption)))⟩
theorem LF.callNil (n : Int) (w : World) : Calls Try.prog 26 #[.pointer none, .int .i64 n] w fun e w' => e = .returned (.bool false) ∧ B w w' := by
  by_cases n0 : n = 0
  · subst n0
    go_enter Try.func26, Try.ntmps26
    go_wp2
    go_ret
    exact ⟨rfl, by (repeat (first | assumption | exact B_refl _ | refine B_drewN ?_ _ | refine B_drew ?_ | refine B_alloc ?_ _ | refine B_setCell ?_ (by first | (simp; done) | (simp; omega)) _ | refine B_trans ?_ (by assumption)))⟩
  · by_cases n1 : n = 1
    · subst n1
      go_enter Try.func26, Try.ntmps26
      go_wp2
      go_ret
      exact ⟨rfl, by (repeat (first | assumption | exact B_refl _ | refine B_drewN ?_ _ | refine B_drew ?_ | refine B_alloc ?_ _ | refine B_setCell ?_ (by first | (simp; done) | (simp; omega)) _ | refine B_trans ?_ (by assumption)))⟩
    · by_cases n2 : n = 2
      · subst n2
        go_enter Try.func26, Try.ntmps26
        go_wp2
        go_ret
        exact ⟨rfl, by (repeat (first | assumption | exact B_refl _ | refine B_drewN ?_ _ | refine B_drew ?_ | refine B_alloc ?_ _ | refine B_setCell ?_ (by first | (simp; done) | (simp; omega)) _ | refine B_trans ?_ (by assumption)))⟩
      · have b0 : (n == 0) = false := by simp [n0]
        have b1 : (n == 1) = false := by simp [n1]
        have b2 : (n == 2) = false := by simp [n2]
        clear n0 n1 n2
        go_enter Try.func26, Try.ntmps26
        go_wp2
        go_ret
        exact ⟨rfl, by (repeat (first | assumption | exact B_refl _ | refine B_drewN ?_ _ | refine B_drew ?_ | refine B_alloc ?_ _ | refine B_setCell ?_ (by first | (simp; done) | (simp; omega)) _ | refine B_trans ?_ (by assumption)))⟩
end Go.Proofs.Ytdmhlnjlbcapoaa
