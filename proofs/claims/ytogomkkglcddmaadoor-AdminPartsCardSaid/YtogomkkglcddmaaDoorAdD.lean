/- The admin's verbs (admin.verbs, admin.bare, hostlerref19.Verb). -/
import Derived.Test.YtogomkkglcddmaaDoorAdA
namespace Go.Proofs.YtogomkkglcddmaaDoor.Ad
open Go.RowKit Go.Proofs.YtogomkkglcddmaaDoor Go.Proofs.YtogomkkglcddmaaDoor.Nm Go.Proofs.YtogomkkglcddmaaDoor.Cf
def verbsL : List ByteArray := [bs [100, 114, 97, 105, 110], bs [117, 110, 100, 114, 97, 105, 110], bs [102, 111, 114, 99, 101], bs [101, 106, 101, 99, 116], bs [115, 116, 97, 116, 117, 115], bs [116, 105, 99, 107]]
def inB (n : Int) : Bool := decide (0 ≤ n) && decide (n < 6)
def verbV (n : Int) : ByteArray := if inB n then verbsL.getD n.toNat ⟨#[]⟩ else ⟨#[]⟩
theorem inB_yes {n : Int} (h : inB n = true) : ∃ k : Nat, k < 6 ∧ n = k := by
  unfold inB at h
  rw [Bool.and_eq_true, decide_eq_true_eq, decide_eq_true_eq] at h
  exact ⟨n.toNat, by omega, by omega⟩
theorem inB_no {n : Int} (h : inB n = false) : n < 0 ∨ (0 ≤ n ∧ 6 ≤ n) := by
  unfold inB at h
  rw [Bool.and_eq_false_iff, decide_eq_false_iff_not, decide_eq_false_iff_not] at h
  omega
theorem bare_any (n : Int) (w : World) :
    Calls Tryd.prog 47 #[.int .i64 n] w fun e w' => e = .returned (.bool (decide (4 ≤ n))) ∧ Below w.heap.size w w' := by
  go_enter Tryd.func47, Tryd.ntmps47
  go_wp2_with fail
  go_ret
  exact ⟨rfl, Below.refl _ _⟩
set_option maxRecDepth 100000 in
theorem verbs_any (w : World) :
    Calls Tryd.prog 46 #[] w fun e w' => ∃ g cc, e = .returned (.slice (some ⟨g, 0, none⟩) 6 cc) ∧ 6 ≤ cc ∧ w.heap.size ≤ g ∧ Blk w' g 9 (encS verbsL).toArray ∧ Below w.heap.size w w' := by
  have HB := Lib.hid (fun o => (Below.refl w.heap.size w).alloc (Nat.le_refl _) o)
  have HN := Lib.hid (fun cs => Blk.new w 9 cs)
  go_enter Tryd.func46, Tryd.ntmps46
  go_wp2_with fail
  go_ret
  exact ⟨_, _, rfl, Nat.le_refl _, Nat.le_refl _, HN.out _, HB.out _⟩
set_option maxRecDepth 100000 in
theorem refverb_any (n : Int) (w : World) :
    Calls Tryd.prog 50 #[.int .i64 n] w fun e w' => e = .returned (.string (verbV n)) ∧ Below w.heap.size w w' := by
  cases hin : inB n with
  | false =>
    have hv : verbV n = ⟨#[]⟩ := by unfold verbV; rw [hin]; rfl
    rw [hv]
    rcases inB_no hin with h | ⟨h, h2⟩
    · go_enter Tryd.func50, Tryd.ntmps50
      go_wp2_with fail
      go_ret
      exact ⟨rfl, Below.refl _ _⟩
    · go_enter Tryd.func50, Tryd.ntmps50
      go_wp2_with fail
      go_ret
      exact ⟨rfl, Below.refl _ _⟩
  | true =>
    obtain ⟨k, hk, rfl⟩ := inB_yes hin
    have hv : verbV (k : Int) = verbsL.getD k ⟨#[]⟩ := by unfold verbV; rw [hin]; rfl
    rw [hv]
    clear hv hin
    have hB := Lib.hid (fun o => (Below.refl w.heap.size w).alloc (Nat.le_refl _) o)
    match k, hk with
    | 0, _ | 1, _ | 2, _ | 3, _ | 4, _ | 5, _ =>
      go_enter Tryd.func50, Tryd.ntmps50
      go_wp2_with fail
      go_ret
      exact ⟨rfl, hB.out _⟩
end Go.Proofs.YtogomkkglcddmaaDoor.Ad
