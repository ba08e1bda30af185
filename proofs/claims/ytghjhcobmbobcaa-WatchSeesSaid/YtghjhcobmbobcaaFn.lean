/- frame.Name: the name of a frame's kind. -/
import Derived.Test.YtghjhcobmbobcaaRn
import Derived.WalkKit
namespace Go.Proofs.Ytghjhcobmbobcaa
open Go.RowKit
def fnameV (k : Int) : ByteArray := if k = 1 then ⟨#[104, 101, 108, 108, 111]⟩ else if k = 2 then ⟨#[98, 101, 103, 105, 110]⟩ else if k = 3 then ⟨#[113, 117, 101, 114, 121]⟩ else if k = 4 then ⟨#[99, 111, 109, 109, 105, 116]⟩ else if k = 5 then ⟨#[114, 111, 108, 108, 98, 97, 99, 107]⟩
  else if k = 6 then ⟨#[114, 101, 112, 108, 121]⟩ else if k = 7 then ⟨#[101, 114, 114, 111, 114]⟩ else if k = 8 then ⟨#[99, 108, 111, 115, 101]⟩ else ⟨#[]⟩
theorem kind_any (k : Int) (w : World) : Calls Try.prog 43 #[.int .i64 k] w fun e w' => e = .returned (.bool (decide (1 ≤ k ∧ k ≤ 8))) ∧ w' = w := by
  by_cases h1 : 1 ≤ k
  · by_cases h8 : k ≤ 8
    · rw [decide_eq_true ⟨h1, h8⟩]
      go_enter Try.func43, Try.ntmps43
      go_wp2
      go_ret
      exact ⟨rfl, rfl⟩
    · rw [decide_eq_false (fun e => h8 e.2)]
      go_enter Try.func43, Try.ntmps43
      go_wp2
      go_ret
      exact ⟨rfl, rfl⟩
  · rw [decide_eq_false (fun e => h1 e.1)]
    go_enter Try.func43, Try.ntmps43
    go_wp2
    go_ret
    exact ⟨rfl, rfl⟩
set_option maxHeartbeats 1000000 in
set_option maxRecDepth 100000 in
theorem fname_no (k : Int) (hk : ¬ (1 ≤ k ∧ k ≤ 8)) (w : World) : Calls Try.prog 39 #[.int .i64 k] w fun e w' => e = .returned (.string (fnameV k)) ∧ Below w.heap.size w w' := by
  have HK := Lib.hid (show ∀ W, Calls Try.prog 43 #[.int .i64 k] W fun e w' => e = .returned (.bool false) ∧ w' = W from fun W => (kind_any k W).mono fun e w' ⟨he, hw⟩ => ⟨by rw [he, decide_eq_false hk], hw⟩)
  have hf : fnameV k = ⟨#[]⟩ := by
    unfold fnameV
    rw [if_neg (by omega), if_neg (by omega), if_neg (by omega), if_neg (by omega), if_neg (by omega), if_neg (by omega), if_neg (by omega), if_neg (by omega)]
  rw [hf]
  clear hk hf
  go_enter Try.func39, Try.ntmps39
  go_wp2_with (go_at_call 43; refine (HK.out _).mono ?_; rintro e w' ⟨rfl, rfl⟩)
  go_ret
  exact ⟨rfl, (Below.refl _ _).alloc (Nat.le_refl _) _⟩
set_option maxHeartbeats 1000000 in
set_option maxRecDepth 100000 in
theorem fname_any (k : Int) (w : World) : Calls Try.prog 39 #[.int .i64 k] w fun e w' => e = .returned (.string (fnameV k)) ∧ Below w.heap.size w w' := by
  by_cases hk : 1 ≤ k ∧ k ≤ 8
  · have hc : k = 1 ∨ k = 2 ∨ k = 3 ∨ k = 4 ∨ k = 5 ∨ k = 6 ∨ k = 7 ∨ k = 8 := by omega
    have HK := Lib.hid (show ∀ W, Calls Try.prog 43 #[.int .i64 k] W fun e w' => e = .returned (.bool true) ∧ w' = W from fun W => (kind_any k W).mono fun e w' ⟨he, hw⟩ => ⟨by rw [he, decide_eq_true hk], hw⟩)
    clear hk
    rcases hc with rfl | rfl | rfl | rfl | rfl | rfl | rfl | rfl
    all_goals
      go_enter Try.func39, Try.ntmps39
      go_wp2_with (go_at_call 43; refine (HK.out _).mono ?_; rintro e w' ⟨rfl, rfl⟩)
      go_ret
      exact ⟨rfl, (Below.refl _ _).alloc (Nat.le_refl _) _⟩
  · exact fname_no k hk w
end Go.Proofs.Ytghjhcobmbobcaa
