/- admin.must where it is so; slices.Index of the verbs. -/
import Derived.Test.YtogomkkglcddmaaDoorAdD
namespace Go.Proofs.YtogomkkglcddmaaDoor.Ad
open Go.RowKit Go.Proofs.YtogomkkglcddmaaDoor Go.Proofs.YtogomkkglcddmaaDoor.Nm Go.Proofs.YtogomkkglcddmaaDoor.Cf
theorem must_yes (x : Int) (w : World) :
    Calls Tryd.prog 43 #[.bool true, .int .i64 x] w fun e w' => e = .returned (.tuple #[]) ∧ w' = w := by
  go_enter Tryd.func43, Tryd.ntmps43
  go_wp2_with fail
  first | exact bodyPost_end (results_none Tryd.results43 _ _ _) rfl ⟨rfl, rfl⟩ | exact bodyPost_ret (results_none Tryd.results43 _ _ _) rfl ⟨rfl, rfl⟩
/-- The place of a verb's word, -1 if it is none's. -/
theorem verb_index (g c : Nat) (x : ByteArray) (w : World) (hb : Blk w g 9 (encS verbsL).toArray) :
    Calls Tryd.prog 45 #[.slice (some ⟨g, 0, none⟩) 6 c, .string x] w fun e w' => e = .returned (.int .i64 (Lib.idxOfS verbsL x)) ∧ w' = w := by
  refine Tryd.slices_Index_string g 0 6 c verbsL x w (by decide) (by decide) fun j hj => ?_
  rw [Nat.zero_add, hb.cell j]
  match j, hj with
  | 0, _ | 1, _ | 2, _ | 3, _ | 4, _ | 5, _ => rfl
theorem must_no (x : Int) (w : World) :
    Calls Tryd.prog 43 #[.bool false, .int .i64 x] w fun e w' => e = .panicked [{ v := .iface 25 (.int .i64 x), recovered := false }] ∧ w' = w := by
  go_enter Tryd.func43, Tryd.ntmps43
  go_wp2_with fail
  first | exact ⟨rfl, rfl, rfl⟩ | simp [bodyPost]
end Go.Proofs.YtogomkkglcddmaaDoor.Ad
