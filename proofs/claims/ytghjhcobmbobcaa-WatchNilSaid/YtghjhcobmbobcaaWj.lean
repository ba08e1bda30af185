/- A watch that is not there: WatchNil's walk. -/
import Derived.Test.YtghjhcobmbobcaaWe
import Derived.Test.YtghjhcobmbobcaaOpen
namespace Go.Proofs.Ytghjhcobmbobcaa.Wt
open Go.RowKit Go.Proofs.Ytghjhcobmbobcaa.Mp Go.Proofs.Ytghjhcobmbobcaa

theorem see_nil (a b c d f : Value) (w : World) : Calls Try.prog 12 #[.pointer none, .agg #[a, b, c, d, f]] w fun e w' => e = .returned (.int .i64 1) ∧ Below w.heap.size w w' := by
  have HB : Hid (Below w.heap.size w (w.alloc (.cells #[a, b, c, d, f] 36))) := Lib.hid ((Below.refl _ _).alloc (Nat.le_refl _) _)
  go_enter Try.func12, Try.ntmps12
  go_wp2_with fail
  go_ret
  exact ⟨rfl, HB.out⟩
theorem conns_nil (v : Value) (w : World) : Calls Try.prog 24 #[.pointer none, v] w fun e w' => e = .returned (.slice none 0 0) ∧ w' = w := by
  go_enter Try.func24, Try.ntmps24
  go_wp2_with fail
  go_ret
  exact ⟨rfl, rfl⟩
theorem of_nil (v : Value) (w : World) : Calls Try.prog 36 #[.pointer none, v] w fun e w' => e = .returned (.slice none 0 0) ∧ w' = w := by
  go_enter Try.func36, Try.ntmps36
  go_wp2_with fail
  go_ret
  exact ⟨rfl, rfl⟩
theorem Conns_nil (w : World) : Calls Try.prog 14 #[.pointer none] w fun e w' => e = .returned (.slice none 0 0) ∧ w' = w := by
  go_enter Try.func14, Try.ntmps14
  go_wp2_with fail
  refine (conns_nil _ _).mono ?_
  rintro e w' ⟨rfl, rfl⟩
  go_wp2_with fail
  go_ret
  exact ⟨rfl, rfl⟩
theorem Open_nil (w : World) : Calls Try.prog 15 #[.pointer none] w fun e w' => e = .returned (.slice none 0 0) ∧ w' = w := by
  go_enter Try.func15, Try.ntmps15
  go_wp2_with fail
  refine (conns_nil _ _).mono ?_
  rintro e w' ⟨rfl, rfl⟩
  go_wp2_with fail
  go_ret
  exact ⟨rfl, rfl⟩
theorem Ended_nil (w : World) : Calls Try.prog 19 #[.pointer none] w fun e w' => e = .returned (.slice none 0 0) ∧ w' = w := by
  go_enter Try.func19, Try.ntmps19
  go_wp2_with fail
  refine (of_nil _ _).mono ?_
  rintro e w' ⟨rfl, rfl⟩
  go_wp2_with fail
  go_ret
  exact ⟨rfl, rfl⟩
theorem Greeted_nil (w : World) : Calls Try.prog 20 #[.pointer none] w fun e w' => e = .returned (.slice none 0 0) ∧ w' = w := by
  go_enter Try.func20, Try.ntmps20
  go_wp2_with fail
  refine (of_nil _ _).mono ?_
  rintro e w' ⟨rfl, rfl⟩
  go_wp2_with fail
  go_ret
  exact ⟨rfl, rfl⟩
theorem walk_WatchNil (W : World) (cs : Array Value) (hw : cs.size = 5 ∧ ∀ (i : Nat) (k : FK), [FK.int, FK.int, FK.int, FK.str, FK.str][i]? = some k → ∃ u, cs[i]? = some u ∧ leafOk k u) :
    Calls Try.prog 7 #[.agg cs] W fun e W' => e = .returned (.bool true) ∧ Below W.heap.size W W' := by
  obtain ⟨hs, _⟩ := hw
  obtain ⟨a, b, c, d, f, rfl⟩ : ∃ a b c d f, cs = #[a, b, c, d, f] := by
    obtain ⟨l⟩ := cs
    match l, hs with
    | [a, b, c, d, f], _ => exact ⟨a, b, c, d, f, rfl⟩
  go_enter Try.func7, Try.ntmps7
  have H0 : Hid (∀ w1, Below (W.alloc (.cells #[a, b, c, d, f] 36)).heap.size (W.alloc (.cells #[a, b, c, d, f] 36)) w1 → Below W.heap.size W w1 ∧
      w1.cell? ⟨W.heap.size, 0, none⟩ = some a ∧ w1.cell? ⟨W.heap.size, 1, none⟩ = some b ∧ w1.cell? ⟨W.heap.size, 2, none⟩ = some c ∧ w1.cell? ⟨W.heap.size, 3, none⟩ = some d ∧ w1.cell? ⟨W.heap.size, 4, none⟩ = some f) := Lib.hid fun w1 hb => by
    have hlt : W.heap.size < (W.alloc (.cells #[a, b, c, d, f] 36)).heap.size := by rw [World.size_alloc]; omega
    have hx : w1.heap[W.heap.size]? = some (.cells #[a, b, c, d, f] 36 (0, 0)) := (hb.block _ hlt).trans (heap_alloc_new _ _)
    exact ⟨((Below.refl _ _).alloc (Nat.le_refl _) _).trans (hb.mono (by omega)), by simp [World.cell?, hx], by simp [World.cell?, hx], by simp [World.cell?, hx], by simp [World.cell?, hx], by simp [World.cell?, hx]⟩
  go_wp2_with fail
  refine (lives_any _).mono ?_
  rintro e w1 ⟨rfl, b1⟩
  obtain ⟨h1, c0, c1, c2, c3, c4⟩ := H0.out w1 b1
  have H1 := Lib.hid h1
  clear b1 h1 H0
  go_wp2_with fail
  refine (see_nil a b c d f w1).mono ?_
  rintro e w2 ⟨rfl, b2⟩
  have H2 : Hid (Below W.heap.size W w2) := Lib.hid (H1.out.trans (b2.mono H1.out.size))
  clear b2 H1 c0 c1 c2 c3 c4
  go_wp2_with (first
    | (go_at_call 14; refine (Conns_nil _).mono ?_; rintro e w' ⟨rfl, rfl⟩)
    | (go_at_call 15; refine (Open_nil _).mono ?_; rintro e w' ⟨rfl, rfl⟩)
    | (go_at_call 19; refine (Ended_nil _).mono ?_; rintro e w' ⟨rfl, rfl⟩)
    | (go_at_call 20; refine (Greeted_nil _).mono ?_; rintro e w' ⟨rfl, rfl⟩))
  go_ret
  exact ⟨rfl, H2.out⟩
end Go.Proofs.Ytghjhcobmbobcaa.Wt
