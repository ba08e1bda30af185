/- TraceJoins: its walk at arguments that hold few letters together. -/
import Derived.Test.YthalpaggcdpcbaaDoorTrOe
namespace Go.Proofs.YthalpaggcdpcbaaDoor.Tr
open Go.RowKit Go.Proofs.YthalpaggcdpcbaaDoor Go.Proofs.YthalpaggcdpcbaaDoor.Nm Go.Proofs.YthalpaggcdpcbaaDoor.Cf
theorem mid_of {W : World} {a : Option Addr} {l : List OutV} (ho : OutsAt W a l) (hb : ∀ g o, a = some ⟨g, o, none⟩ → ∀ q, q < l.length * 5 → ∀ s, W.cell? ⟨g, o + q, none⟩ = some (.string s) → s.size ≤ 1048576) : ∀ o ∈ l, Mid o := by
  intro x hx
  obtain ⟨j, hj⟩ := List.getElem?_of_mem hx
  have hlt := (List.getElem?_eq_some_iff.1 hj).1
  obtain ⟨g, off, e, _, _, _, c3, c4⟩ := ho j x hj
  have h3 := hb g off e (j * 5 + 3) (by omega) x.data (by rw [← Nat.add_assoc]; exact c3)
  have h4 := hb g off e (j * 5 + 4) (by omega) x.text (by rw [← Nat.add_assoc]; exact c4)
  exact ⟨by omega, by omega⟩
theorem walk_TraceJoins (W : World) (a0 : Option Addr) (len0 cap0 : Nat) (hcap0 : len0 ≤ cap0) (xs0 : List Value) (rd0 : Rds W a0 xs0)
    (lf0 : ∀ (i j : Nat) (k : FK), i < len0 → ([FK.int, FK.int, FK.int, FK.str, FK.str] : List FK)[j]? = some k → ∃ u, xs0[i * 5 + j]? = some u ∧ leafOk k u)
    (b0 : ∀ g o, a0 = some ⟨g, o, none⟩ → ∀ q, q < len0 * 5 → ∀ s, W.cell? ⟨g, o + q, none⟩ = some (.string s) → s.size ≤ 1048576)
    (a1 : Option Addr) (len1 cap1 : Nat) (hcap1 : len1 ≤ cap1) (xs1 : List Value) (rd1 : Rds W a1 xs1)
    (lf1 : ∀ (i j : Nat) (k : FK), i < len1 → ([FK.int, FK.int, FK.int, FK.str, FK.str] : List FK)[j]? = some k → ∃ u, xs1[i * 5 + j]? = some u ∧ leafOk k u)
    (b1 : ∀ g o, a1 = some ⟨g, o, none⟩ → ∀ q, q < len1 * 5 → ∀ s, W.cell? ⟨g, o + q, none⟩ = some (.string s) → s.size ≤ 1048576) (hv : VarsC W) :
    Calls Tryd.prog 4 #[.slice a0 len0 cap0, .slice a1 len1 cap1] W fun e W' => e = .returned (.bool true) ∧ Below W.heap.size W W' := by
  obtain ⟨la, rfl, hoa⟩ := outs_at rd0 lf0
  obtain ⟨lb, rfl, hob⟩ := outs_at rd1 lf1
  exact joins_walk W a0 a1 cap0 cap1 la lb hoa hob hcap0 hcap1 (mid_of hoa b0) (mid_of hob b1) hv
end Go.Proofs.YthalpaggcdpcbaaDoor.Tr
