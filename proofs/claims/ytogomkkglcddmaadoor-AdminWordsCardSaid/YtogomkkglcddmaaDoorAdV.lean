/- AdminWords returns true, for all numbers: its walk. -/
import Derived.Test.YtogomkkglcddmaaDoorAdL
import Derived.Test.YtogomkkglcddmaaDoorAdC
namespace Go.Proofs.YtogomkkglcddmaaDoor.Ad
open Go.RowKit Go.Proofs.YtogomkkglcddmaaDoor Go.Proofs.YtogomkkglcddmaaDoor.Nm Go.Proofs.YtogomkkglcddmaaDoor.Cf
theorem isEmpty_no {x : ByteArray} (h : 1 ≤ x.size) : x.toList.isEmpty = false := by
  rw [ByteArray.toList_eq, List.isEmpty_eq_false_iff]
  intro e
  have : x.size = 0 := by rw [show x.size = x.data.toList.length from (Array.length_toList).symm, e]; rfl
  omega
set_option maxRecDepth 100000 in
set_option maxHeartbeats 2000000 in
theorem words_walk (w : World) (a b : Int) (x y : ByteArray) (c d : Bool) (hv : VarsB w) (hx : answerV a = x) (hy : answerV b = y) (ha : (Lit.int .i64 a).wf = true) (hb : (Lit.int .i64 b).wf = true)
    (k1 : x.toList.isEmpty = false) (k2 : (x.toList == y.toList) = c) (k3 : (a == b) = c) (k4 : (a == 0) = d) (k5 : (x.toList == [111, 107]) = d)
    (k6 : (a < 0 ∧ ¬ (x.size : Int) < 7) ∨ (0 ≤ a ∧ ¬ a ≤ 13 ∧ ¬ (x.size : Int) < 7) ∨ (0 ≤ a ∧ a ≤ 13 ∧ (x.size : Int) < 7 ∧ (x.toList == [101, 114, 114, 111, 114]) = false)) :
    Calls Tryd.prog 6 #[.int .i64 a, .int .i64 b] w fun e w' => e = .returned (.bool true) ∧ Below w.heap.size w w' := by
  have HL := Lib.hid (lives_any w hv)
  have HV := Lib.hid hv
  have HA := Lib.hid (fun W h => answer_any a ha W h)
  have HB := Lib.hid (fun W h => answer_any b hb W h)
  rw [hx] at HA
  rw [hy] at HB
  clear hx hy hv ha hb
  rcases k6 with ⟨g1, g2⟩ | ⟨g1, g2, g3⟩ | ⟨g1, g2, g3, g4⟩
  all_goals
    go_enter Tryd.func6, Tryd.ntmps6
    go_wp2_with fail
    refine HL.out.mono ?_
    rintro e w1 ⟨rfl, b1⟩
    have B1 := Lib.hid b1
    clear b1
    go_wp2_with fail
    refine (HA.out _ (HV.out.below B1.out)).mono ?_
    rintro e w2 ⟨rfl, b2⟩
    have B2 := Lib.hid (B1.out.trans (b2.mono B1.out.size))
    clear b2
    go_wp2_with fail
    refine (HB.out _ (HV.out.below B2.out)).mono ?_
    rintro e w3 ⟨rfl, b3⟩
    have B3 := Lib.hid (B2.out.trans (b3.mono B2.out.size))
    clear b3
    go_wp2_with fail
    go_ret
    refine ⟨?_, B3.out⟩
    first | rfl | (have g5 : decide (a ≤ 13) = false := decide_eq_false (by omega); simp [g5]) | (simp; omega)
theorem walk_AdminWords (w : World) (a : Int) (ha : (Lit.int .i64 a).wf = true) (b : Int) (hb : (Lit.int .i64 b).wf = true) (hv : VarsB w) :
    Calls Tryd.prog 6 #[.int .i64 a, .int .i64 b] w fun e w' => e = .returned (.bool true) ∧ Below w.heap.size w w' := by
  refine words_walk w a b _ _ (decide (a = b)) (decide (a = 0)) hv rfl rfl ha hb (isEmpty_no (ans_ne a)) ?_ ?_ ?_ ?_ ?_
  · by_cases h : a = b
    · subst h
      simp
    · rw [decide_eq_false h]
      exact (Lib.bytes_beq_false_iff _ _).2 fun e => h (ans_inj e)
  · by_cases h : a = b
    · rw [decide_eq_true h]; exact beq_iff_eq.2 h
    · rw [decide_eq_false h]; exact beq_eq_false_iff_ne.2 h
  · by_cases h : a = 0
    · rw [decide_eq_true h]; exact beq_iff_eq.2 h
    · rw [decide_eq_false h]; exact beq_eq_false_iff_ne.2 h
  · have := ans_ok a
    rw [ByteArray.toList_eq]
    by_cases h : a = 0
    · rw [decide_eq_true h]; exact beq_iff_eq.2 (this.2 h)
    · rw [decide_eq_false h]; exact beq_eq_false_iff_ne.2 fun e => h (this.1 e)
  · cases hin : inE a with
    | false =>
      have h7 := out_size hin
      rcases inE_no hin with h | ⟨h, h2⟩
      · exact .inl ⟨h, by omega⟩
      · exact .inr (.inl ⟨h, by omega, by omega⟩)
    | true =>
      obtain ⟨k, hk, rfl⟩ := inE_yes hin
      have hs := word_size hk
      rw [← ans_in hk] at hs
      refine .inr (.inr ⟨by omega, by omega, by omega, ?_⟩)
      rw [ByteArray.toList_eq]
      exact beq_eq_false_iff_ne.2 hs.2.2.1
end Go.Proofs.YtogomkkglcddmaaDoor.Ad
