/- admin.caught: the deferred call that keeps the error that something ended with. -/
import Derived.Test.YtogomkkglcddmaaDoorAdE
import Derived.Defers
import Derived.Recover
namespace Go.Proofs.YtogomkkglcddmaaDoor.Ad
open Go.RowKit Go.Proofs.YtogomkkglcddmaaDoor Go.Proofs.YtogomkkglcddmaaDoor.Nm Go.Proofs.YtogomkkglcddmaaDoor.Cf
theorem caught_idle (p : Addr) (w : World) :
    CallsD Tryd.prog 42 #[.pointer (some p)] .returning w fun e u' w' => e = .returned (.tuple #[]) ∧ u' = .returning ∧ w' = w := by
  refine callsD_of_wpS Tryd.func42 rfl fun c₀ cs hu => ?_
  apply wpS_seq
  apply wpS_region
  simp [wpOpsS, go_sem, recoverD, hu, Tryd.ntmps42, Exit.thenS]
  apply wpS_seq
  apply wpS_region
  simp [wpOpsS, go_sem, Exit.thenS]
  refine wpS_cond (t := false) (by simp [Act.eval, Array.replicate]) ?_
  simp only [Bool.false_eq_true, if_false]
  refine wpS_of_wp (wp_skip ?_)
  cases c₀
  simp_all [bodyPostS, results, Tryd.results42]
theorem run_errno (x : Int) (w : World) : (Instr.typeAssert (.iface 25 (.int .i64 x)) 20 25 false).run Tryd.prog w = .ok (.int .i64 x) w := by
  simp [Instr.typeAssert, run_underlying Tryd.underlying25, go_sem, Result.andThen]
theorem caught_panicking (p : Addr) (x y : Int) (older : List PanicEntry) (w : World) (hc : w.cell? p = some (.int .i64 y)) (hz : w.frozen? p = false) :
    CallsD Tryd.prog 42 #[.pointer (some p)] (.panicking ({ v := .iface 25 (.int .i64 x), recovered := false } :: older)) w fun e u' w' =>
      e = .returned (.tuple #[]) ∧ u' = .panicking ({ v := .iface 25 (.int .i64 x), recovered := true } :: older) ∧ w' = w.setCell p (.int .i64 x) := by
  refine callsD_of_wpS Tryd.func42 rfl fun c₀ cs hu => ?_
  apply wpS_seq
  apply wpS_region
  simp [wpOpsS, go_sem, recoverD, hu, Tryd.ntmps42, Exit.thenS]
  apply wpS_seq
  apply wpS_region
  simp [wpOpsS, go_sem, Exit.thenS]
  refine wpS_cond (t := true) (by simp [Act.eval, Array.replicate]) ?_
  simp only [if_true]
  apply wpS_region
  have hta := fun W => run_errno x W
  simp [wpOpsS, go_sem, hta, hc, hz, bodyPostS, results, Tryd.results42]
end Go.Proofs.YtogomkkglcddmaaDoor.Ad
