/- hostlerref01.Same at two equal lists: true. -/
import Derived.Test.YtghjhcobmbobcaaWt
import Derived.BigQuiet
import Derived.BigRegion
namespace Go.Proofs.Ytghjhcobmbobcaa.Wt
open Go.RowKit Go.Proofs.Ytghjhcobmbobcaa
theorem IntsAt.below {w w' : World} {A : Option Addr} {l : List Int} (h : IntsAt w A l) (hb : Below w.heap.size w w') : IntsAt w' A l := fun j x hj => by
  obtain ⟨g, o, e, hc⟩ := h j x hj
  exact ⟨g, o, e, (hb.cell (p := ⟨g, o + j, none⟩) (World.block_lt_of_cell? w _ hc)).trans hc⟩
theorem same_yes (w : World) (A B : Option Addr) (c d : Nat) (l : List Int) (hl : l.length ≤ 100000) (ha : IntsAt w A l) (hb : IntsAt w B l) :
    Calls Try.prog 13 #[.slice A l.length c, .slice B l.length d] w fun e w' => e = .returned (.bool true) ∧ Below w.heap.size w w' := by
  have HA := Lib.hid ha
  have HB := Lib.hid hb
  have t0 : ((l.length : Int) != (l.length : Int)) = false := by simp
  clear ha hb
  have H0 := Lib.hid (Below.refl w.heap.size w)
  go_enter Try.func13, Try.ntmps13
  go_wp2_with fail
  go_loopw [5] (fun i wr => ∃ k : Nat, k ≤ l.length ∧ i = .int .i64 k ∧ Below w.heap.size w wr) (fun i _ => l.length - (intOf i).toNat)
  case atStart => exact ⟨0, Nat.zero_le _, rfl, H0.out⟩
  case round =>
    obtain ⟨k, hk, rfl, hbw⟩ := hrel
    by_cases hlt : k < l.length
    · obtain ⟨x, hx⟩ : ∃ x, l[k]? = some x := ⟨_, List.getElem?_eq_getElem hlt⟩
      obtain ⟨g, o, rfl, c0⟩ := (HA.out.below hbw) k x hx
      obtain ⟨g2, o2, rfl, c1⟩ := (HB.out.below hbw) k x hx
      have HBW := Lib.hid hbw
      have t1 : (x != x) = false := by simp
      clear hbw hx
      go_wp2_with fail
      go_quiet (fail)
      go_wp2_with fail
      go_roundw
      case rel => exact ⟨k + 1, by omega, by push_cast; rfl, by first | exact HBW.out | exact ⟨HBW.out.os, HBW.out.tape, HBW.out.output, HBW.out.size, HBW.out.block⟩⟩
      case measure => simp [intOf]; omega
    · have HBW := Lib.hid hbw
      clear hbw
      go_wp2_with fail
      go_ret
      exact ⟨rfl, HBW.out⟩
end Go.Proofs.Ytghjhcobmbobcaa.Wt
