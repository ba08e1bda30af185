/- The row of WatchSees. -/
import Derived.Test.YtghjhcobmbobcaaRows
import Derived.Test.YtghjhcobmbobcaaSxN
import Derived.Test.YtghjhcobmbobcaaOpen
import Derived.ShutString
namespace Go.Proofs.Ytghjhcobmbobcaa.watchSees
open Go.RowKit Go.ChangeShapes Go.WideShapes Go.ChangeAt
open Go.ChangeMaps (open_string shut_string)
theorem own : ownKnob Try.prog.godebug = none := by kernel_rfl
theorem laidOut : laidOutB Try.prog = true := by kernel_rfl
set_option maxRecDepth 100000 in
theorem lifted (os : Os) (started : os.Started) (H : Type) (enc : TypeId × Value → H) :
    ReturnsInHanded {} Try.checked os 5 .any (Rows.watchSeesSpec.pre6 enc Try.prog Try.f5 Rows.watchSeesRow.domain false) (Rows.watchSeesSpec.post enc Try.prog Try.f5 false true false false) := by
  refine returnsInHanded_of_change_sized (C := Try.checked) own started (by kernel_rfl) Try.func5
    (ChangeSpec.witness6 (enc := enc) (C := Try.checked) false ⟨#[], #[.slice none 0 0], []⟩ 8 (by kernel_rfl) (by kernel_rfl) (by kernel_rfl) (by kernel_rfl)) ?_
  intro W base args ds gs before hval0 hW hcnd hsz0 _
  have hsz : (DataW.weightsEach Try.prog (Try.f5.params.toList ++ Rows.watchSeesSpec.plain.varTypes Try.prog) (ds ++ gs)).all (· ≤ reachBytes) = true := hsz0
  have hval : ∀ (j : Nat) t v, Try.f5.params[j]? = some t → args[j]? = some v → Value.okWide Try.prog W .any base t v := hval0
  have hW' := hW
  obtain ⟨p, q, hA0, hV, rfl, hfz, hnd⟩ := hW
  have hA : DataW.TrodAll enc Try.prog W 0 (fun _ => true) true Try.f5.params.toList args.toList ds p := hA0
  rw [Try.params5] at hA hval hsz
  obtain ⟨v0, vs0, d0, ds0, p0, q0, hargs, rfl, rfl, h0, r0⟩ := trodAll_cons hA
  obtain ⟨rfl, rfl, rfl⟩ := trodAll_nil r0
  obtain rfl : args = #[v0] := by cases args; simp_all
  obtain ⟨rfl, rfl⟩ := trodVars_none hV
  have k0 := h0
  have lt0 : ∀ x ∈ p0, x.block < W.heap.size := by obtain ⟨m, hm⟩ := k0; exact DataW.trod_lt m _ _ _ hm
  obtain ⟨a0, len0, cap0, rfl⟩ := okWide_slice Try.underlying22 (hval 0 22 v0 rfl rfl)
  obtain ⟨u0, m0, ⟨el0, sp0, z0⟩, xs0, l0, rd0, lf0⟩ := open_flats (ks := [.int, .int, .int, .str, .str]) Try.underlying22 Wt.flat_Out (by kernel_rfl) (by decide) rfl h0
  have y0 : len0 * 56 ≤ 140737488351232 := by
    rcases z0 with ⟨rfl, _, _⟩ | ⟨rfl, hel⟩
    · omega
    · have z := sized_slice hsz (j := 0) (t := 22) (e := 36) rfl rfl Try.underlying22
      rw [show Try.prog.bytesOf 36 = 56 by kernel_rfl, hel] at z
      unfold reachBytes at z
      omega
  clear hA0 hval0 hsz0 hsz
  refine (Wt.walk_WatchSees W a0 len0 cap0 u0 m0 y0 xs0 l0 rd0 lf0).mono fun e W' ⟨he, bel⟩ => ?_
  subst he
  exact ⟨_, rfl, _, _, _, [], _, [], hW', trodAll_mk1 (shut_bool Try.underlying4 _), (trodAll_cons_mk (Below.trod laidOut (by kernel_rfl) (of_decide_eq_true (by kernel_rfl)) k0 bel lt0) trodAll_mk0), rfl, bel.frame _, fun h => by cases h⟩
theorem over : Rows.watchSeesRow.holds Try.pinned (OpenSpec.ofChange Rows.watchSeesSpec) :=
  OpenClaim.holds_of_wide 5 Try.f5 rfl rfl rfl rfl rfl rfl rfl ⟨rfl, rfl, rfl, rfl, rfl⟩ rfl rfl rfl rfl rfl (by kernel_rfl) Try.func5 (by kernel_rfl)
    (of_decide_eq_true (by kernel_rfl)) (by unfold Func.isWrapper; first | (rw [if_pos (by decide +kernel)]; kernel_rfl) | (rw [if_neg (by decide +kernel)]; exact ⟨rfl, rfl⟩))
    (fun os started H enc _ => lifted os started H enc)
theorem proved : Rows.WatchSeesSaid := over
#print axioms proved
end Go.Proofs.Ytghjhcobmbobcaa.watchSees
namespace Go.Proofs.Ytghjhcobmbobcaa
/-- The row, under a short name, for the claim. -/
theorem watchSees_holds : Rows.WatchSeesSaid := watchSees.proved
end Go.Proofs.Ytghjhcobmbobcaa
