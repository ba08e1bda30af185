/- A config that comes as an argument: fifteen ints. -/
import Derived.Test.YtjaoknpdomnnfaaDoorCfC
import Derived.Test.YtjaoknpdomnnfaaDoorCfD
import Derived.Test.YtjaoknpdomnnfaaDoorOpen
namespace Go.Proofs.YtjaoknpdomnnfaaDoor.Cf
open Go.RowKit Go.Proofs.YtjaoknpdomnnfaaDoor Go.Proofs.YtjaoknpdomnnfaaDoor.Nm
set_option maxRecDepth 100000 in
theorem flat_Config : Flat Tryd.prog 24 [.int, .int, .int, .int, .int, .int, .int, .int, .int, .int, .int, .int, .int, .int, .int] :=
  Flat.struct Tryd.underlying24 (by kernel_rfl) fun i k hk => by
    match i, hk with
    | 0, hk => exact ⟨0, _, [.int], rfl, (by decide : 0 ≤ 0), (by decide : 0 < 0 + 1), Flat.int Tryd.underlying3, (by kernel_rfl), hk⟩
    | 1, hk => exact ⟨1, _, [.int], rfl, (by decide : 1 ≤ 1), (by decide : 1 < 1 + 1), Flat.int Tryd.underlying3, (by kernel_rfl), hk⟩
    | 2, hk => exact ⟨2, _, [.int], rfl, (by decide : 2 ≤ 2), (by decide : 2 < 2 + 1), Flat.int Tryd.underlying3, (by kernel_rfl), hk⟩
    | 3, hk => exact ⟨3, _, [.int], rfl, (by decide : 3 ≤ 3), (by decide : 3 < 3 + 1), Flat.int Tryd.underlying3, (by kernel_rfl), hk⟩
    | 4, hk => exact ⟨4, _, [.int], rfl, (by decide : 4 ≤ 4), (by decide : 4 < 4 + 1), Flat.int Tryd.underlying3, (by kernel_rfl), hk⟩
    | 5, hk => exact ⟨5, _, [.int], rfl, (by decide : 5 ≤ 5), (by decide : 5 < 5 + 1), Flat.int Tryd.underlying3, (by kernel_rfl), hk⟩
    | 6, hk => exact ⟨6, _, [.int], rfl, (by decide : 6 ≤ 6), (by decide : 6 < 6 + 1), Flat.int Tryd.underlying3, (by kernel_rfl), hk⟩
    | 7, hk => exact ⟨7, _, [.int], rfl, (by decide : 7 ≤ 7), (by decide : 7 < 7 + 1), Flat.int Tryd.underlying3, (by kernel_rfl), hk⟩
    | 8, hk => exact ⟨8, _, [.int], rfl, (by decide : 8 ≤ 8), (by decide : 8 < 8 + 1), Flat.int Tryd.underlying3, (by kernel_rfl), hk⟩
    | 9, hk => exact ⟨9, _, [.int], rfl, (by decide : 9 ≤ 9), (by decide : 9 < 9 + 1), Flat.int Tryd.underlying3, (by kernel_rfl), hk⟩
    | 10, hk => exact ⟨10, _, [.int], rfl, (by decide : 10 ≤ 10), (by decide : 10 < 10 + 1), Flat.int Tryd.underlying3, (by kernel_rfl), hk⟩
    | 11, hk => exact ⟨11, _, [.int], rfl, (by decide : 11 ≤ 11), (by decide : 11 < 11 + 1), Flat.int Tryd.underlying3, (by kernel_rfl), hk⟩
    | 12, hk => exact ⟨12, _, [.int], rfl, (by decide : 12 ≤ 12), (by decide : 12 < 12 + 1), Flat.int Tryd.underlying3, (by kernel_rfl), hk⟩
    | 13, hk => exact ⟨13, _, [.int], rfl, (by decide : 13 ≤ 13), (by decide : 13 < 13 + 1), Flat.int Tryd.underlying3, (by kernel_rfl), hk⟩
    | 14, hk => exact ⟨14, _, [.int], rfl, (by decide : 14 ≤ 14), (by decide : 14 < 14 + 1), Flat.int Tryd.underlying3, (by kernel_rfl), hk⟩
    | i + 15, hk => simp at hk
theorem cfg_of {cs : Array Value} (h : cs.size = 15 ∧ ∀ (i : Nat) (k : FK), [FK.int, .int, .int, .int, .int, .int, .int, .int, .int, .int, .int, .int, .int, .int, .int][i]? = some k → ∃ u, cs[i]? = some u ∧ leafOk k u) : ∃ c, cs = cfgA c ∧ c.length = 15 ∧ ∀ x ∈ c, (Lit.int .i64 x).wf = true := by
  obtain ⟨hs, hl⟩ := h
  have hk : ∀ i, i < 15 → ∃ n, cs[i]? = some (.int .i64 n) ∧ (Lit.int .i64 n).wf = true := fun i hi => by
    have : [FK.int, .int, .int, .int, .int, .int, .int, .int, .int, .int, .int, .int, .int, .int, .int][i]? = some FK.int := by
      match i, hi with
      | 0, _ | 1, _ | 2, _ | 3, _ | 4, _ | 5, _ | 6, _ | 7, _ | 8, _ | 9, _ | 10, _ | 11, _ | 12, _ | 13, _ | 14, _ => rfl
    obtain ⟨u, hu, n, rfl, hw⟩ := hl i _ this
    exact ⟨n, hu, hw⟩
  refine ⟨(List.range 15).map fun i => intOf (cs.getD i undef), ?_, by simp, fun x hx => ?_⟩
  · apply Array.ext_getElem?
    intro i
    rcases Nat.lt_or_ge i 15 with hi | hi
    · obtain ⟨n, hn, _⟩ := hk i hi
      rw [hn]
      have : ((List.range 15).map fun i => intOf (cs.getD i undef))[i]? = some n := by
        rw [List.getElem?_map, List.getElem?_range hi]
        simp [Array.getD_eq_getD_getElem?, hn, intOf]
      exact (cfgA_at this).symm
    · rw [Array.getElem?_eq_none (by omega), Array.getElem?_eq_none (by rw [cfgA_size]; simpa using hi)]
  · obtain ⟨i, hi, rfl⟩ := List.mem_map.1 hx
    obtain ⟨n, hn, hw⟩ := hk i (List.mem_range.1 hi)
    simpa [Array.getD_eq_getD_getElem?, hn, intOf] using hw
end Go.Proofs.YtjaoknpdomnnfaaDoor.Cf
