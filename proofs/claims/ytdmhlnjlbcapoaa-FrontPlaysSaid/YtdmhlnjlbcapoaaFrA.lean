/- Contracts of front.column, front.table, front.On. -/
import Derived.Test.YtdmhlnjlbcapoaaLib
import Derived.Deep.RegionWith
import Derived.Deep.QuietTactic
import Derived.BigQuiet
import Derived.Laws.CopyOwn
namespace Go.Proofs.Ytdmhlnjlbcapoaa
open Go.RowKit
/-- the column of a kind -/
def colOf (k : Int) : Int := if k = 1 then 0 else if k = 2 then 1 else if k = 3 then 2 else if k = 4 then 3 else if k = 5 then 3 else if k = 8 then 4 else 5
theorem column_any (k : Int) (w : World) : Calls Try.prog 29 #[.int .i64 k] w fun e w' => e = .returned (.int .i64 (colOf k)) ∧ w = w' := by
  go_enter Try.func29, Try.ntmps29
  go_wp2
  all_goals (go_ret; refine ⟨?_, rfl⟩; unfold colOf; simp_all)

/-- the cells of the table, in its order: the state behind, what is to be done -/
def tabNums : List Int := [1, 1, 6, 7, 6, 7, 6, 7, 6, 5, 6, 7, 6, 7, 2, 2, 6, 7, 6, 7, 6, 5, 6, 7, 2, 3, 2, 3, 2, 3, 2, 3, 6, 5, 6, 7, 6, 8, 6, 8, 3, 4, 4, 4, 6, 6, 6, 8, 4, 3, 4, 3, 4, 3, 4, 3, 6, 6, 6, 8, 6, 7, 6, 7, 5, 0, 1, 0, 6, 5, 6, 7, 6, 0, 6, 0, 6, 0, 6, 0, 6, 0, 6, 0]
def tabCells : Array Value := (tabNums.map (Value.int .i64)).toArray
theorem tab_zero : (Try.prog.info? 61).map (fun i => (i.zero, i.size)) = some (some (.agg (Array.replicate 84 (.int .i64 0))), 84) := by kernel_rfl
theorem row_size : (Try.prog.info? 60).map (·.size) = some 12 := by kernel_rfl
theorem cell_size : (Try.prog.info? 59).map (·.size) = some 2 := by kernel_rfl
theorem tab_size : (Try.prog.info? 61).map (·.size) = some 84 := by kernel_rfl
set_option maxRecDepth 100000 in
set_option maxHeartbeats 2000000 in
theorem table_any (w : World) : Calls Try.prog 28 #[] w fun e w' => e = .returned (.agg tabCells) ∧ B w w' := by
  obtain ⟨z, _⟩ := zero_of_info (P := Try.prog) tab_zero
  go_enter Try.func28, Try.ntmps28
  go_wp2_with ((with_reducible refine at_store (t := 61) (x := .tmp 0) (y := .tmp 64) rfl ?_); refine wpList_store_row rfl 61 (.tmp 0) (.tmp 64) rfl w.heap.size tabCells ?g2 ?g3 61 (Array.replicate 84 (.int .i64 0)) ?h1 ?h2 ?h3 ?h4 ?h5)
  case g2 => rfl
  case g3 => rfl
  case h1 => repeat (first | exact heap_at_new _ (by simp) | refine heap_at_old (by first | (simp; done) | (simp; omega)) ?_)
  case h2 => exact tab_size
  case h3 => rfl
  case h4 => kernel_rfl
  case h5 =>
    refine bodyPost_ret (v := .agg tabCells) (results_cell_row (p := 0) (ty := 61) rfl _ _ w.heap.size 61 tabCells (0, 0) _ rfl ?_ Try.underlying61 rfl tab_size) rfl ⟨rfl, ?_⟩
    · refine setRow_heap _ _ (Array.replicate 84 (.int .i64 0)) _ 61 (0, 0) ?_
      repeat (first | exact heap_at_new _ (by simp) | refine heap_at_old (by first | (simp; done) | (simp; omega)) ?_)
    · refine below_setRow ?_ (Nat.le_refl _) _
      (repeat (first | assumption | exact B_refl _ | refine B_drewN ?_ _ | refine B_drew ?_ | refine B_alloc ?_ _ | refine B_setCell ?_ (by first | (simp; done) | (simp; omega)) _ | refine B_trans ?_ (by assumption)))
/-- the state behind a frame, and what is to be done -/
def cellAt (s c : Int) : Int × Int := (tabNums.getD (s.toNat * 12 + c.toNat * 2) 0, tabNums.getD (s.toNat * 12 + c.toNat * 2 + 1) 0)
theorem colOf_range (k : Int) : 0 ≤ colOf k ∧ colOf k < 6 := by unfold colOf; (repeat' split) <;> omega
theorem cells_at (s c : Int) (h0 : 0 ≤ s) (h1 : s < 7) (k0 : 0 ≤ c) (k1 : c < 6) :
    (tabCells.extract (s.toNat * 12) (s.toNat * 12 + 12)).extract (c.toNat * 2) (c.toNat * 2 + 2) = #[.int .i64 (cellAt s c).1, .int .i64 (cellAt s c).2] := by
  rcases (show s = 0 ∨ s = 1 ∨ s = 2 ∨ s = 3 ∨ s = 4 ∨ s = 5 ∨ s = 6 by omega) with rfl | rfl | rfl | rfl | rfl | rfl | rfl <;>
    rcases (show c = 0 ∨ c = 1 ∨ c = 2 ∨ c = 3 ∨ c = 4 ∨ c = 5 by omega) with rfl | rfl | rfl | rfl | rfl | rfl <;> kernel_rfl
def onTo (s k : Int) : Int := if s < 0 ∨ 7 ≤ s then s else (cellAt s (colOf k)).1
def onDo (s k : Int) : Int := if s < 0 ∨ 7 ≤ s then 0 else (cellAt s (colOf k)).2
set_option maxHeartbeats 1000000 in
theorem on_any (s k : Int) (w : World) : Calls Try.prog 17 #[.int .i64 s, .int .i64 k] w fun e w' => e = .returned (.tuple #[.int .i64 (onTo s k), .int .i64 (onDo s k)]) ∧ B w w' := by
  by_cases hs : s < 0 ∨ 7 ≤ s
  · have e1 : onTo s k = s := by simp [onTo, hs]
    have e2 : onDo s k = 0 := by simp [onDo, hs]
    rw [e1, e2]
    clear e1 e2
    rcases hs with hs | hs
    all_goals
      go_enter Try.func17, Try.ntmps17
      go_wp2
      go_ret2
      exact ⟨rfl, Below.refl _ _⟩
  · have e1 : onTo s k = (cellAt s (colOf k)).1 := by simp [onTo, hs]
    have e2 : onDo s k = (cellAt s (colOf k)).2 := by simp [onDo, hs]
    rw [e1, e2]
    clear e1 e2
    have h0 : 0 ≤ s := by omega
    have h1 : s < 7 := by omega
    clear hs
    obtain ⟨c0, c1⟩ := colOf_range k
    have i1 := fun w => run_index_agg (P := Try.prog) Try.underlying61 Try.underlying60 rfl row_size tabCells s h0 h1 w
    have i2 := fun w => run_index_agg (P := Try.prog) Try.underlying60 Try.underlying59 rfl cell_size (tabCells.extract (s.toNat * 12) (s.toNat * 12 + 12)) (colOf k) c0 c1 w
    rw [cells_at s (colOf k) h0 h1 c0 c1] at i2
    go_enter Try.func17, Try.ntmps17
    go_wp2_with fail
    go_region_with (first | (go_at_call 28; refine (table_any _).mono ?_; rintro e w1 ⟨rfl, hb⟩; obtain ⟨hc, hf⟩ := bcell hb; have hz := hb.size; simp at hz) | (go_at_call 29; refine (column_any _ _).mono ?_; rintro e w1 ⟨rfl, rfl⟩))
    all_goals
      go_wp2_with fail
      go_quiet (fail)
      go_wp2
      go_ret2
      refine ⟨rfl, ?_⟩
      (repeat (first | assumption | exact B_refl _ | refine B_drewN ?_ _ | refine B_drew ?_ | refine B_alloc ?_ _ | refine B_setCell ?_ (by first | (simp; done) | (simp; omega)) _ | refine B_trans ?_ (by assumption)))
end Go.Proofs.Ytdmhlnjlbcapoaa
