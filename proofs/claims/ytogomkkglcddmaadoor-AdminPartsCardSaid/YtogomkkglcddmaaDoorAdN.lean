/- Short contracts: admin.bare changes nothing; strings.Split at a blank with its pieces known. -/
import Derived.Test.YtogomkkglcddmaaDoorAdG
namespace Go.Proofs.YtogomkkglcddmaaDoor.Ad
open Go.RowKit Go.Proofs.YtogomkkglcddmaaDoor Go.Proofs.YtogomkkglcddmaaDoor.Nm Go.Proofs.YtogomkkglcddmaaDoor.Cf
theorem bare_same (n : Int) (w : World) :
    Calls Tryd.prog 47 #[.int .i64 n] w fun e w' => e = .returned (.bool (decide (4 ≤ n))) ∧ w' = w := by
  go_enter Tryd.func47, Tryd.ntmps47
  go_wp2_with fail
  go_ret
  exact ⟨rfl, rfl⟩
/-- strings.Split at a blank, the pieces known. -/
theorem split_cons {s x : ByteArray} {r : List ByteArray} {n : Nat} (hl : cutV 32 s = x :: r) (hn : r.length + 1 = n) (hs : s.size ≤ 9999) (w : World) (hv : VarsB w) :
    Calls Tryd.prog 44 #[.string s, .string ⟨#[32]⟩] w fun e w' => ∃ g o cc, e = .returned (.slice (some ⟨g, o, none⟩) n cc) ∧ n ≤ cc ∧ w.heap.size ≤ g ∧ g < w'.heap.size ∧ w'.cell? ⟨g, o, none⟩ = some (.string x) ∧
      (∀ j y, (x :: r)[j]? = some y → w'.cell? ⟨g, o + j, none⟩ = some (.string y)) ∧ B w w' := by
  refine (splitB_any 32 s hs w hv).mono ?_
  rintro e w' ⟨A, cc, rfl, hc, hst, hnew, hb⟩
  rw [hl] at hc hst ⊢
  rw [List.length_cons, hn] at hc ⊢
  obtain ⟨g, o, rfl, hlt, hcs⟩ := hst.cells (by simp)
  exact ⟨g, o, cc, rfl, hc, hnew _ rfl, hlt, hcs 0 x rfl, hcs, hb⟩
end Go.Proofs.YtogomkkglcddmaaDoor.Ad
