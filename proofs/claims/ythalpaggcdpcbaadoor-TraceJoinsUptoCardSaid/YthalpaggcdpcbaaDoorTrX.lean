/- The reference's frame names; its Line. -/
import Derived.Test.YthalpaggcdpcbaaDoorTrF
import Derived.Test.YthalpaggcdpcbaaDoorTrS
namespace Go.Proofs.YthalpaggcdpcbaaDoor.Tr
open Go.RowKit Go.Proofs.YthalpaggcdpcbaaDoor Go.Proofs.YthalpaggcdpcbaaDoor.Nm Go.Proofs.YthalpaggcdpcbaaDoor.Cf
set_option maxRecDepth 100000 in
theorem reffname_any (k : Int) (hk : 1 ≤ k ∧ k ≤ 8) (w : World) : Calls Tryd.prog 29 #[.int .i64 k] w fun e w' => e = .returned (.string (fnameV k)) ∧ Below w.heap.size w w' := by
  have hc : k = 1 ∨ k = 2 ∨ k = 3 ∨ k = 4 ∨ k = 5 ∨ k = 6 ∨ k = 7 ∨ k = 8 := by omega
  clear hk
  rcases hc with rfl | rfl | rfl | rfl | rfl | rfl | rfl | rfl
  all_goals
    go_enter Tryd.func29, Tryd.ntmps29
    go_wp2
    go_ret
    exact ⟨rfl, (Below.refl _ _).alloc (Nat.le_refl _) _⟩
end Go.Proofs.YthalpaggcdpcbaaDoor.Tr
