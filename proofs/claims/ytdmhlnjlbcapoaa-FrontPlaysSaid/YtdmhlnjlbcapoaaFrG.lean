/- lives answers true. -/
import Derived.Test.YtdmhlnjlbcapoaaFrF
namespace Go.Proofs.Ytdmhlnjlbcapoaa
open Go.RowKit
set_option maxHeartbeats 1000000 in
theorem lives_any (w : World) : Calls Try.prog 9 #[] w fun e w' => e = .returned (.bool true) ∧ B w w' := by
  go_enter Try.func9, Try.ntmps9
  go_wp2_with fail
  refine (LF.new (X := fun _ => False) (B_refl _) (fun _ h => h.elim)).mono ?_
  rintro e w1 ⟨rfl, h1, _⟩
  go_wp2_with fail
  refine (h1.take 1 _ 1 1 [] (by kernel_rfl)).mono ?_
  rintro e w2 ⟨rfl, h2, _⟩
  clear h1
  go_wp2_with fail
  refine (h2.take 2 _ 2 2 [] (by kernel_rfl)).mono ?_
  rintro e w3 ⟨rfl, h3, _⟩
  clear h2
  go_wp2_with fail
  refine (h3.take 3 _ 2 3 [(3, ⟨#[113]⟩)] (by kernel_rfl)).mono ?_
  rintro e w4 ⟨rfl, h4, _⟩
  clear h3
  go_wp2_with fail
  refine (h4.next_no (.inl rfl)).mono ?_
  rintro e w5 ⟨rfl, h5, _⟩
  clear h4
  go_wp2_with fail
  refine ((h5.alloc _).bound).mono ?_
  rintro e w6 ⟨rfl, h6, _⟩
  clear h5
  have h6 := (h6 : LF _ w w6 _ 3 _)
  go_wp2_with fail
  refine (h6.next_yes (by decide) (by decide) 3 4 [] (by kernel_rfl)).mono ?_
  rintro e w7 ⟨rfl, h7, _⟩
  clear h6
  go_wp2_with fail
  refine ((h7.alloc _).state).mono ?_
  rintro e w8 ⟨rfl, rfl⟩
  go_wp2
  go_ret
  exact ⟨rfl, (h7.alloc _).below⟩
end Go.Proofs.Ytdmhlnjlbcapoaa
