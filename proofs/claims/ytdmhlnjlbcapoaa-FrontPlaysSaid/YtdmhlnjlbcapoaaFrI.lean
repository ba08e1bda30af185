/- FrontNil and FrontRounds: what the law's call comes to. -/
import Derived.Test.YtdmhlnjlbcapoaaFrH
import Derived.Test.YtdmhlnjlbcapoaaOpen
import Derived.Deep.LoopGhost
namespace Go.Proofs.Ytdmhlnjlbcapoaa
open Go.RowKit
theorem flat_Frame : Flat Try.prog 29 [.int, .str] :=
  Flat.struct Try.underlying29 (by kernel_rfl) fun i k hk => by
    match i, hk with
    | 0, hk => exact ⟨0, _, [.int], rfl, Nat.le_refl _, by decide, Flat.int Try.underlying3, by kernel_rfl, hk⟩
    | 1, hk => exact ⟨1, _, [.str], rfl, Nat.le_refl _, by decide, Flat.str Try.underlying9, by kernel_rfl, hk⟩
    | i + 2, hk => simp at hk
/-- an aggregate of an int and a string -/
theorem agg_is {cs : Array Value} (h : cs.size = 2 ∧ ∀ (i : Nat) (k : FK), [FK.int, FK.str][i]? = some k → ∃ u, cs[i]? = some u ∧ leafOk k u) : ∃ k d, cs = #[.int .i64 k, .string d] := by
  obtain ⟨u0, h0, k, rfl, _⟩ := h.2 0 .int rfl
  obtain ⟨u1, h1, d, rfl, _⟩ := h.2 1 .str rfl
  refine ⟨k, d, ?_⟩
  apply Array.ext_getElem?
  intro i
  match i with
  | 0 => simpa using h0
  | 1 => simpa using h1
  | i + 2 => rw [Array.getElem?_eq_none (by omega)]; simp
set_option maxHeartbeats 1000000 in
theorem walk_FrontNil (w : World) (cs : Array Value) (h : cs.size = 2 ∧ ∀ (i : Nat) (k : FK), [FK.int, FK.str][i]? = some k → ∃ u, cs[i]? = some u ∧ leafOk k u) (n : Int) (_ : (Lit.int .i64 n).wf = true) :
    Calls Try.prog 8 #[.agg cs, .int .i64 n] w fun e w' => e = .returned (.bool true) ∧ B w w' := by
  obtain ⟨k, d, rfl⟩ := agg_is h
  clear h
  go_enter Try.func8, Try.ntmps8
  go_wp2_with fail
  refine (lives_any _).mono ?_
  rintro e w1 ⟨rfl, hb1⟩
  have k0 : w1.cell? ⟨w.heap.size, 0, none⟩ = some (.int .i64 k) := (hb1.cell (p := ⟨w.heap.size, 0, none⟩) (by simp)).trans (by simp)
  have k1 : w1.cell? ⟨w.heap.size, 1, none⟩ = some (.string d) := (hb1.cell (p := ⟨w.heap.size, 1, none⟩) (by simp)).trans (by simp)
  go_wp2_with fail
  refine (next_nil _).mono ?_
  rintro e w2 ⟨rfl, hb2⟩
  have k2 : w2.cell? ⟨w.heap.size, 0, none⟩ = some (.int .i64 k) := (hb2.cell (p := ⟨w.heap.size, 0, none⟩) (World.block_lt_of_cell? _ _ k0)).trans k0
  have k3 : w2.cell? ⟨w.heap.size, 1, none⟩ = some (.string d) := (hb2.cell (p := ⟨w.heap.size, 1, none⟩) (World.block_lt_of_cell? _ _ k1)).trans k1
  have hlt := World.block_lt_of_cell? _ _ k2
  simp at hlt
  clear k0 k1
  go_wp2_with (first | (go_at_call 11; refine (take_nil _ _ _).mono ?_; rintro e w3 ⟨rfl, hb3⟩) | (go_at_call 26; refine (LF.callNil _ _).mono ?_; rintro e w4 ⟨rfl, hb4⟩) | (go_at_call 12; refine (state_nil _).mono ?_; rintro e w5 ⟨rfl, rfl⟩) | (go_at_call 14; refine (held_nil _).mono ?_; rintro e w5 ⟨rfl, rfl⟩))
  go_ret
  exact ⟨rfl, by (repeat (first | assumption | exact B_refl _ | refine B_drewN ?_ _ | refine B_drew ?_ | refine B_alloc ?_ _ | refine B_setCell ?_ (by first | (simp; done) | (simp; omega)) _ | refine B_trans ?_ (by assumption)))⟩
end Go.Proofs.Ytdmhlnjlbcapoaa
