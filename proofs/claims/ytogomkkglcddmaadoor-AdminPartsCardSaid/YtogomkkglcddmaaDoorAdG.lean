/- admin.Parse: the command of any line. -/
import Derived.Test.YtogomkkglcddmaaDoorAdP
import Derived.Test.YtogomkkglcddmaaDoorAdF
namespace Go.Proofs.YtogomkkglcddmaaDoor.Ad
open Go.RowKit Go.Proofs.YtogomkkglcddmaaDoor Go.Proofs.YtogomkkglcddmaaDoor.Nm Go.Proofs.YtogomkkglcddmaaDoor.Cf
theorem undo_idle (pe pc : Addr) (u : FrameMode) (w : World) (hc : w.cell? pe = some (.int .i64 0)) :
    CallsD Tryd.prog 41 #[.pointer (some pe), .pointer (some pc)] u w fun e u' w' => u' = u ∧ (e = .returned (.tuple #[]) ∧ w' = w) := by
  go_enter_d Tryd.func41, Tryd.ntmps41
  go_wp2
  first | go_end0 | refine bodyPost_ret (results_none rfl _ _ _) rfl ?_
  exact ⟨rfl, rfl⟩
theorem undo_err (pe : Addr) (g : Nat) (x v : Int) (n : ByteArray) (u : FrameMode) (w : World) (hx : (x != 0) = true) (hc : w.cell? pe = some (.int .i64 x)) (hb : Blk w g 24 #[.int .i64 v, .string n]) :
    CallsD Tryd.prog 41 #[.pointer (some pe), .pointer (some ⟨g, 0, none⟩)] u w fun e u' w' => u' = u ∧ (e = .returned (.tuple #[]) ∧ w' = (w.setCell ⟨g, 0, none⟩ (.int .i64 0)).setCell ⟨g, 1, none⟩ (.string ⟨#[]⟩)) := by
  have c0 := hb.cell 0
  have c1 := hb.cell 1
  have f0 := hb.frozen 0
  have f1 := hb.frozen 1
  have l0 := hb.lt
  simp at c0 c1
  clear hb
  go_enter_d Tryd.func41, Tryd.ntmps41
  go_wp2
  go_end0
  exact ⟨rfl, rfl⟩
/-- The results that lie in two cells. -/
theorem results_cells {tmps : Array Value} {w1 : World} {b : Nat} {v x : Int} {n : ByteArray} (h2 : tmps[2]? = some (.pointer (some ⟨b, 0, none⟩))) (h3 : tmps[3]? = some (.pointer (some ⟨b + 1, 0, none⟩)))
    (hC : Blk w1 b 24 #[.int .i64 v, .string n]) (hE : Blk w1 (b + 1) 25 #[.int .i64 x]) :
    (results Tryd.f15 tmps).run Tryd.prog w1 = .ok (.tuple #[.agg #[.int .i64 v, .string n], .int .i64 x]) w1 := by
  have c0 := hC.cell 0
  have c1 := hC.cell 1
  have e0 := hE.cell 0
  simp at c0 c1 e0
  simp [results, Tryd.results15, h2, h3, asAddr, c0, c1, e0, go_sem]
theorem parse_ret {tmps : Array Value} {w w1 : World} {b : Nat} {v : Int} {n : ByteArray} (h2 : tmps[2]? = some (.pointer (some ⟨b, 0, none⟩))) (h3 : tmps[3]? = some (.pointer (some ⟨b + 1, 0, none⟩)))
    (hC : Blk w1 b 24 #[.int .i64 v, .string n]) (hE : Blk w1 (b + 1) 25 #[.int .i64 0]) (hB : Below w.heap.size w w1) :
    bodyPostD Tryd.prog Tryd.f15 (fun e w' => e = .returned (.tuple #[.agg #[.int .i64 v, .string n], .int .i64 0]) ∧ Below w.heap.size w w') .ret
      { tmps := tmps, defers := [{ target := .fn (.func 42) #[], args := #[.pointer (some ⟨b + 1, 0, none⟩)] }, { target := .fn (.func 41) #[.pointer (some ⟨b + 1, 0, none⟩), .pointer (some ⟨b, 0, none⟩)], args := #[] }] } w1 := by
  have e0 := hE.cell 0
  simp at e0
  show Leaves _ _ _ _ _ _ _
  refine leaves_cons (f := 42) (args := #[.pointer (some ⟨b + 1, 0, none⟩)]) (by simp) (by simp [go_sem]) ?_
  refine (caught_idle _ _).mono ?_
  rintro e u' w'' ⟨rfl, rfl, rfl⟩
  refine leaves_cons (f := 41) (args := #[.pointer (some ⟨b + 1, 0, none⟩), .pointer (some ⟨b, 0, none⟩)]) (by simp [settle]) (by simp [go_sem]) ?_
  refine (undo_idle _ _ .returning _ e0).mono ?_
  rintro e u' w'' ⟨rfl, rfl, rfl⟩
  exact ⟨_, results_cells h2 h3 hC hE, rfl, hB⟩
theorem parse_panic {tmps : Array Value} {w w1 : World} {b : Nat} {v x : Int} {n : ByteArray} (hx : (x != 0) = true) (hwb : w.heap.size ≤ b) (h2 : tmps[2]? = some (.pointer (some ⟨b, 0, none⟩))) (h3 : tmps[3]? = some (.pointer (some ⟨b + 1, 0, none⟩)))
    (hC : Blk w1 b 24 #[.int .i64 v, .string n]) (hE : Blk w1 (b + 1) 25 #[.int .i64 0]) (hB : Below w.heap.size w w1) :
    bodyPostD Tryd.prog Tryd.f15 (fun e w' => e = .returned (.tuple #[.agg #[.int .i64 0, .string ⟨#[]⟩], .int .i64 x]) ∧ Below w.heap.size w w') (.panic [{ v := .iface 25 (.int .i64 x), recovered := false }])
      { tmps := tmps, defers := [{ target := .fn (.func 42) #[], args := #[.pointer (some ⟨b + 1, 0, none⟩)] }, { target := .fn (.func 41) #[.pointer (some ⟨b + 1, 0, none⟩), .pointer (some ⟨b, 0, none⟩)], args := #[] }] } w1 := by
  have e0 := hE.cell 0
  have ef := hE.frozen 0
  simp at e0
  have hE2 : Blk (w1.setCell ⟨b + 1, 0, none⟩ (.int .i64 x)) (b + 1) 25 #[.int .i64 x] := hE.set_ 0 _
  have hC2 : Blk (w1.setCell ⟨b + 1, 0, none⟩ (.int .i64 x)) b 24 #[.int .i64 v, .string n] := hC.far (p := ⟨b + 1, 0, none⟩) (by show b ≠ b + 1; omega) _
  have e2 := hE2.cell 0
  simp at e2
  have hC3 := (hC2.set_ 0 (.int .i64 0)).set_ 1 (.string ⟨#[]⟩)
  have hE3 := (hE2.far (p := ⟨b, 0, none⟩) (by show b + 1 ≠ b; omega) (.int .i64 0)).far (p := ⟨b, 1, none⟩) (by show b + 1 ≠ b; omega) (.string ⟨#[]⟩)
  have hB3 := ((hB.setCell (p := ⟨b + 1, 0, none⟩) (by show w.heap.size ≤ b + 1; omega) (.int .i64 x)).setCell (p := ⟨b, 0, none⟩) hwb (.int .i64 0)).setCell (p := ⟨b, 1, none⟩) hwb (.string ⟨#[]⟩)
  show Leaves _ _ _ _ _ _ _
  refine leaves_cons (f := 42) (args := #[.pointer (some ⟨b + 1, 0, none⟩)]) (by simp) (by simp [go_sem]) ?_
  refine (caught_panicking _ x 0 [] _ e0 ef).mono ?_
  rintro e u' w'' ⟨rfl, rfl, rfl⟩
  refine leaves_cons (f := 41) (args := #[.pointer (some ⟨b + 1, 0, none⟩), .pointer (some ⟨b, 0, none⟩)]) (by simp [settle]) (by simp [go_sem]) ?_
  refine (undo_err _ b x v n _ _ hx e2 hC2).mono ?_
  rintro e u' w'' ⟨rfl, rfl, rfl⟩
  simp only [Leaves, settle]
  exact ⟨_, results_cells h2 h3 hC3 hE3, rfl, hB3⟩
set_option maxRecDepth 100000 in
theorem parse_long (s : ByteArray) (hs : 400 < s.size) (w : World) :
    Calls Tryd.prog 15 #[.string s] w fun e w' => e = .returned (.tuple #[.agg #[.int .i64 0, .string (⟨#[]⟩ : ByteArray)], .int .i64 13]) ∧ Below w.heap.size w w' := by
  have hd : ¬ (s.size : Int) ≤ 400 := by omega
  have hmf : ∀ (fn : Fn) (first cap : Array Value) (w : World), (Instr.makeFunc fn first cap).run Tryd.prog w = .ok (.func fn first cap) w := fun _ _ _ _ => rfl
  go_enter_defers Tryd.func15, Tryd.ntmps15
  go_wp2_with fail
  refine (must_no _ _).mono ?_
  rintro e w1 ⟨rfl, rfl⟩
  go_wp2_with fail
  exact parse_panic (by decide) (Nat.le_refl _) rfl rfl ((Blk.new _ _ _).alloc _) (heap_at_new _ (by simp)) (((Below.refl _ _).alloc (Nat.le_refl _) _).alloc (by simp) _)
end Go.Proofs.YtogomkkglcddmaaDoor.Ad
