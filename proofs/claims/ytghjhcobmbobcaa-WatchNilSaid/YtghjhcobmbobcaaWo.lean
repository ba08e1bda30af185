/- An output's cells: of which kinds. -/
import Derived.Test.YtghjhcobmbobcaaOpen
namespace Go.Proofs.Ytghjhcobmbobcaa.Wt
open Go.RowKit Go.Proofs.Ytghjhcobmbobcaa

theorem flat_FrameN : Flat Try.prog 34 [.int, .str] :=
  Flat.struct Try.underlying34 (by kernel_rfl) fun i k hk => by
    match i, hk with
    | 0, hk => exact ⟨0, _, [.int], rfl, Nat.le_refl _, by decide, Flat.int Try.underlying3, by kernel_rfl, hk⟩
    | 1, hk => exact ⟨1, _, [.str], rfl, by decide, by decide, Flat.str Try.underlying9, by kernel_rfl, hk⟩
    | i + 2, hk => simp at hk
theorem flat_OutN : Flat Try.prog 36 [.int, .int, .int, .str, .str] :=
  Flat.struct Try.underlying36 (by kernel_rfl) fun i k hk => by
    match i, hk with
    | 0, hk => exact ⟨0, _, [.int], rfl, Nat.le_refl _, by decide, Flat.int Try.underlying3, by kernel_rfl, hk⟩
    | 1, hk => exact ⟨1, _, [.int], rfl, by decide, by decide, Flat.int Try.underlying3, by kernel_rfl, hk⟩
    | 2, hk => exact ⟨2, _, [.int, .str], rfl, by decide, by decide, flat_FrameN, by kernel_rfl, hk⟩
    | 3, hk => exact ⟨2, _, [.int, .str], rfl, by decide, by decide, flat_FrameN, by kernel_rfl, hk⟩
    | 4, hk => exact ⟨3, _, [.str], rfl, by decide, by decide, Flat.str Try.underlying9, by kernel_rfl, hk⟩
    | i + 5, hk => simp at hk
end Go.Proofs.Ytghjhcobmbobcaa.Wt
