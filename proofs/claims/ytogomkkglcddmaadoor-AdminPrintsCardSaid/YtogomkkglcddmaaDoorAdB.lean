/- The reference's words of errors (hostlerref19.Answer). -/
import Derived.Test.YtogomkkglcddmaaDoorAdA
namespace Go.Proofs.YtogomkkglcddmaaDoor.Ad
open Go.RowKit Go.Proofs.YtogomkkglcddmaaDoor Go.Proofs.YtogomkkglcddmaaDoor.Nm Go.Proofs.YtogomkkglcddmaaDoor.Cf
attribute [local go_sem ↓ high] exec_cat
attribute [local go_sem] strOf_str
set_option maxRecDepth 100000 in
set_option maxHeartbeats 8000000 in
theorem refanswer_any (n : Int) (hw : (Lit.int .i64 n).wf = true) (w : World) :
    Calls Tryd.prog 20 #[.int .i64 n] w fun e w' => e = .returned (.string (answerV n)) ∧ Below w.heap.size w w' := by
  cases hin : inE n with
  | false =>
    have hv : answerV n = bs [101, 114, 114, 111, 114, 32] ++ bs (Lib.itoa n) := by unfold answerV; rw [hin]; rfl
    rw [hv]
    have hcat : catOk ⟨#[101, 114, 114, 111, 114, 32]⟩ (bs (Lib.itoa n)) := by
      unfold catOk
      have := itoa_len hw
      rw [bs_size]
      show 6 + _ ≤ _
      omega
    have hsz : (bs (Lib.itoa n)).size ≤ 100 := by rw [bs_size]; exact itoa_len hw
    have he : bs [101, 114, 114, 111, 114, 32] = ⟨#[101, 114, 114, 111, 114, 32]⟩ := rfl
    rw [he]
    have HDG := Lib.hid (digits_any n hw)
    unfold DigPost at HDG
    clear he hv
    rcases inE_no hin with h | ⟨h, h2⟩
    · go_enter Tryd.func20, Tryd.ntmps20
      go_wp2_with fail
      refine (HDG.out w).mono ?_
      rintro e w2 ⟨rfl, b2⟩
      go_wp2_with fail
      go_ret
      exact ⟨rfl, b2⟩
    · go_enter Tryd.func20, Tryd.ntmps20
      go_wp2_with fail
      refine (HDG.out w).mono ?_
      rintro e w2 ⟨rfl, b2⟩
      go_wp2_with fail
      go_ret
      exact ⟨rfl, b2⟩
  | true =>
    obtain ⟨k, hk, rfl⟩ := inE_yes hin
    have hv : answerV (k : Int) = wordsL.getD k ⟨#[]⟩ := by unfold answerV; rw [hin]; rfl
    rw [hv]
    clear hv hin hw
    have hB := Lib.hid (fun o => (Below.refl w.heap.size w).alloc (Nat.le_refl _) o)
    match k, hk with
    | 0, _ | 1, _ | 2, _ | 3, _ | 4, _ | 5, _ | 6, _ | 7, _ | 8, _ | 9, _ | 10, _ | 11, _ | 12, _ | 13, _ =>
      go_enter Tryd.func20, Tryd.ntmps20
      go_wp2_with fail
      go_ret
      exact ⟨rfl, hB.out _⟩
end Go.Proofs.YtogomkkglcddmaaDoor.Ad
