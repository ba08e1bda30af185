-- PRINTED by print.py (a twelfth state) out of the translation. Not trusted: Lean checks it.
import Derived.Test.YtnnnlbbgmdoehaaPDiffDiffsx0
import Derived.Test.YtnnnlbbgmdoehaaPDiffDiffsx1
namespace Go.Proofs.Ytnnnlbbgmdoehaa.PDiffDiffs
open Go.RowKit Go.Proofs.YtnnnlbbgmdoehaaW.PrintWords Go.Proofs.YtnnnlbbgmdoehaaW.PrintLast Go.Proofs.YtnnnlbbgmdoehaaW.PrintMore
attribute [local go_sem] max2_int min2_int max_two min_two max_three min_three max_four min_four   -- for this text's walks alone
set_option linter.unusedVariables false
set_option linter.unusedSimpArgs false

/-! ### hostlerref09_Name: function 24 -/
def hostlerref09_Name.l0 : Nat → ByteArray → Int → Option (Bool)
  | 0, _, _ => none
  | k + 1, x0, x3 => if x3 < (x0.size : Int) then (if 0 ≤ x3 then (if (bt x0 x3) ≥ 97 then (if (bt x0 x3) ≤ 122 then (hostlerref09_Name.l0 k x0 (wrap64 (x3 + 1))) else (if (bt x0 x3) ≥ 48 then (if (bt x0 x3) ≤ 57 then (hostlerref09_Name.l0 k x0 (wrap64 (x3 + 1))) else (if (bt x0 x3) = 46 then (hostlerref09_Name.l0 k x0 (wrap64 (x3 + 1))) else (if ((bt x0 x3) = 45) then (hostlerref09_Name.l0 k x0 (wrap64 (x3 + 1))) else (some false)))) else (if (bt x0 x3) = 46 then (hostlerref09_Name.l0 k x0 (wrap64 (x3 + 1))) else (if ((bt x0 x3) = 45) then (hostlerref09_Name.l0 k x0 (wrap64 (x3 + 1))) else (some false))))) else (if (bt x0 x3) ≥ 48 then (if (bt x0 x3) ≤ 57 then (hostlerref09_Name.l0 k x0 (wrap64 (x3 + 1))) else (if (bt x0 x3) = 46 then (hostlerref09_Name.l0 k x0 (wrap64 (x3 + 1))) else (if ((bt x0 x3) = 45) then (hostlerref09_Name.l0 k x0 (wrap64 (x3 + 1))) else (some false)))) else (if (bt x0 x3) = 46 then (hostlerref09_Name.l0 k x0 (wrap64 (x3 + 1))) else (if ((bt x0 x3) = 45) then (hostlerref09_Name.l0 k x0 (wrap64 (x3 + 1))) else (some false))))) else (none)) else (if (x0.size : Int) ≥ 1 then (some (decide ((x0.size : Int) ≤ 16))) else (some false))
def hostlerref09_Name.f (k : Nat) (a0 : ByteArray) : Option (Bool) := hostlerref09_Name.l0 k a0 0
theorem hostlerref09_Name.mono_l : ∀ k, (∀ y0 y1, LeO (hostlerref09_Name.l0 k y0 y1) (hostlerref09_Name.l0 (k + 1) y0 y1))
  | 0 => fun _ _ r h => by simp [hostlerref09_Name.l0] at h
  | k + 1 => by
    have ih0 := hostlerref09_Name.mono_l k
    · intro y0 y1
      unfold hostlerref09_Name.l0
      repeat' first
      | (with_reducible exact ih0 _ _)
      | (with_reducible exact LeO.refl _)
      | (with_reducible exact LeO.none _)
      | (with_reducible refine LeO.ite ?_ ?_)
      | (with_reducible refine LeO.bind ?_ (fun _ => ?_))
      | exact ih0 _ _
      | exact LeO.none _
      | refine LeO.ite ?_ ?_
      | refine LeO.bind ?_ (fun _ => ?_)
theorem hostlerref09_Name.mono : ∀ a0 k, LeO (hostlerref09_Name.f k a0) (hostlerref09_Name.f (k + 1) a0) := by
  intro a0 k
  have ih0 := hostlerref09_Name.mono_l k
  unfold hostlerref09_Name.f
  repeat' first
      | (with_reducible exact ih0 _ _)
      | (with_reducible exact LeO.refl _)
      | (with_reducible exact LeO.none _)
      | (with_reducible refine LeO.ite ?_ ?_)
      | (with_reducible refine LeO.bind ?_ (fun _ => ?_))
      | exact ih0 _ _
      | exact LeO.none _
      | refine LeO.ite ?_ ?_
      | refine LeO.bind ?_ (fun _ => ?_)
set_option maxHeartbeats 8000000 in
set_option maxRecDepth 100000 in
theorem hostlerref09_Name.calls (k : Nat) (a0 : ByteArray) (r : Bool) (w : World) (h : hostlerref09_Name.f k a0 = some r) :
    Calls Try.prog 24 #[.string a0] w fun e w' => e = .returned (.bool r) ∧ Drawn0 w w' := by
  have H : (hostlerref09_Name.l0 k a0 0) = some r := h
  clear h
  have H' := Aside0.mk H
  clear H
  go_enter Try.func24, Try.ntmps24
  go_wp2
  go_loopg [3] k (fun kq v3 w' => ∃ (x3_1 : Int), v3 = .int .i64 x3_1 ∧ Aside0 (hostlerref09_Name.l0 kq a0 x3_1 = some r) ∧ Aside0 (kq ≤ k) ∧ Drawn0 w w')
  case atStart => exact ⟨(0), (by first | rfl | (simp; done) | (simp [*]; done)), H', ⟨Nat.le_refl _⟩, by repeat (first | exact Drawn0.refl _ | apply Drawn0.step)⟩
  case round =>
    clear H'
    obtain ⟨x3_1, rfl, HA, HK1, ⟨m1, rfl⟩⟩ := hrel
    cases gk with
    | zero => exact absurd HA.out (by simp [hostlerref09_Name.l0])
    | succ k1 =>
      have H := HA.out
      clear HA
      simp only [hostlerref09_Name.l0] at H
      by_cases c2 : x3_1 < (a0.size : Int)
      · rw [if_pos c2] at H
        have c2b0 : decide (x3_1 < (a0.size : Int)) = true := decide_eq_true c2
        clear c2
        by_cases c3 : 0 ≤ x3_1
        · rw [if_pos c3] at H
          have c3b0 : decide (0 ≤ x3_1) = true := decide_eq_true c3
          clear c3
          by_cases c5 : (bt a0 x3_1) ≥ 97
          · rw [if_pos c5] at H
            have c5b0 : decide (97 ≤ (bt a0 x3_1)) = true := decide_eq_true c5
            clear c5
            by_cases c6 : (bt a0 x3_1) ≤ 122
            · rw [if_pos c6] at H
              have c6b0 : decide ((bt a0 x3_1) ≤ 122) = true := decide_eq_true c6
              clear c6
              have H' := Aside0.mk H
              clear H
              have p4 : 0 ≤ (x3_1 : Int) := of_decide_eq_true (by first | (with_reducible assumption) | assumption)
              have q4 : x3_1 < (a0.size : Int) := of_decide_eq_true (by first | (with_reducible assumption) | assumption)
              have hx4 := bt_at a0 x3_1
              replace p4 := eq_true p4
              replace q4 := eq_true q4
              go_wp2
              go_roundg k1
              case measure => have := HK1.out; omega
              case rel => exact ⟨(wrap64 (x3_1 + 1)), (by first | rfl | (simp; done) | (simp [*]; done)), H', ⟨by have := HK1.out; omega⟩, by repeat (first | exact Drawn0.refl _ | apply Drawn0.step)⟩
            · rw [if_neg c6] at H
              have c6b0 : decide ((bt a0 x3_1) ≤ 122) = false := decide_eq_false c6
              clear c6
              by_cases c7 : (bt a0 x3_1) ≥ 48
              · rw [if_pos c7] at H
                have c7b0 : decide (48 ≤ (bt a0 x3_1)) = true := decide_eq_true c7
                clear c7
                by_cases c8 : (bt a0 x3_1) ≤ 57
                · rw [if_pos c8] at H
                  have c8b0 : decide ((bt a0 x3_1) ≤ 57) = true := decide_eq_true c8
                  clear c8
                  have H' := Aside0.mk H
                  clear H
                  have p4 : 0 ≤ (x3_1 : Int) := of_decide_eq_true (by first | (with_reducible assumption) | assumption)
                  have q4 : x3_1 < (a0.size : Int) := of_decide_eq_true (by first | (with_reducible assumption) | assumption)
                  have hx4 := bt_at a0 x3_1
                  replace p4 := eq_true p4
                  replace q4 := eq_true q4
                  go_wp2
                  go_roundg k1
                  case measure => have := HK1.out; omega
                  case rel => exact ⟨(wrap64 (x3_1 + 1)), (by first | rfl | (simp; done) | (simp [*]; done)), H', ⟨by have := HK1.out; omega⟩, by repeat (first | exact Drawn0.refl _ | apply Drawn0.step)⟩
                · rw [if_neg c8] at H
                  have c8b0 : decide ((bt a0 x3_1) ≤ 57) = false := decide_eq_false c8
                  clear c8
                  by_cases c9 : (bt a0 x3_1) = 46
                  · rw [if_pos c9] at H
                    have c9b0 : ((bt a0 x3_1) == 46) = true := beq_iff_eq.mpr c9
                    have c9b1 : ((bt a0 x3_1) != 46) = false := bne_eq_false_iff_eq.mpr c9
                    clear c9
                    have H' := Aside0.mk H
                    clear H
                    have p4 : 0 ≤ (x3_1 : Int) := of_decide_eq_true (by first | (with_reducible assumption) | assumption)
                    have q4 : x3_1 < (a0.size : Int) := of_decide_eq_true (by first | (with_reducible assumption) | assumption)
                    have hx4 := bt_at a0 x3_1
                    replace p4 := eq_true p4
                    replace q4 := eq_true q4
                    go_wp2
                    go_roundg k1
                    case measure => have := HK1.out; omega
                    case rel => exact ⟨(wrap64 (x3_1 + 1)), (by first | rfl | (simp; done) | (simp [*]; done)), H', ⟨by have := HK1.out; omega⟩, by repeat (first | exact Drawn0.refl _ | apply Drawn0.step)⟩
                  · rw [if_neg c9] at H
                    have c9b0 : ((bt a0 x3_1) == 46) = false := beq_eq_false_iff_ne.mpr c9
                    have c9b1 : ((bt a0 x3_1) != 46) = true := bne_iff_ne.mpr c9
                    by_cases c10 : ((bt a0 x3_1) = 45)
                    · rw [if_pos c10] at H
                      have c10b0 : ((bt a0 x3_1) == 45) = true := beq_iff_eq.mpr c10
                      have c10b1 : ((bt a0 x3_1) != 45) = false := bne_eq_false_iff_eq.mpr c10
                      clear c10
                      have H' := Aside0.mk H
                      clear H
                      have p4 : 0 ≤ (x3_1 : Int) := of_decide_eq_true (by first | (with_reducible assumption) | assumption)
                      have q4 : x3_1 < (a0.size : Int) := of_decide_eq_true (by first | (with_reducible assumption) | assumption)
                      have hx4 := bt_at a0 x3_1
                      replace p4 := eq_true p4
                      replace q4 := eq_true q4
                      go_wp2
                      go_roundg k1
                      case measure => have := HK1.out; omega
                      case rel => exact ⟨(wrap64 (x3_1 + 1)), (by first | rfl | (simp; done) | (simp [*]; done)), H', ⟨by have := HK1.out; omega⟩, by repeat (first | exact Drawn0.refl _ | apply Drawn0.step)⟩
                    · rw [if_neg c10] at H
                      have c10b0 : ((bt a0 x3_1) == 45) = false := beq_eq_false_iff_ne.mpr c10
                      have c10b1 : ((bt a0 x3_1) != 45) = true := bne_iff_ne.mpr c10
                      obtain rfl := Option.some.inj H
                      have p4 : 0 ≤ (x3_1 : Int) := of_decide_eq_true (by first | (with_reducible assumption) | assumption)
                      have q4 : x3_1 < (a0.size : Int) := of_decide_eq_true (by first | (with_reducible assumption) | assumption)
                      have hx4 := bt_at a0 x3_1
                      replace p4 := eq_true p4
                      replace q4 := eq_true q4
                      go_wp2
                      go_ret
                      exact ⟨by first | rfl | (simp; done) | (simp [*]; done), by repeat (first | exact Drawn0.refl _ | apply Drawn0.step)⟩
              · rw [if_neg c7] at H
                have c7b0 : decide (48 ≤ (bt a0 x3_1)) = false := decide_eq_false c7
                clear c7
                by_cases c11 : (bt a0 x3_1) = 46
                · rw [if_pos c11] at H
                  have c11b0 : ((bt a0 x3_1) == 46) = true := beq_iff_eq.mpr c11
                  have c11b1 : ((bt a0 x3_1) != 46) = false := bne_eq_false_iff_eq.mpr c11
                  clear c11
                  have H' := Aside0.mk H
                  clear H
                  have p4 : 0 ≤ (x3_1 : Int) := of_decide_eq_true (by first | (with_reducible assumption) | assumption)
                  have q4 : x3_1 < (a0.size : Int) := of_decide_eq_true (by first | (with_reducible assumption) | assumption)
                  have hx4 := bt_at a0 x3_1
                  replace p4 := eq_true p4
                  replace q4 := eq_true q4
                  go_wp2
                  go_roundg k1
                  case measure => have := HK1.out; omega
                  case rel => exact ⟨(wrap64 (x3_1 + 1)), (by first | rfl | (simp; done) | (simp [*]; done)), H', ⟨by have := HK1.out; omega⟩, by repeat (first | exact Drawn0.refl _ | apply Drawn0.step)⟩
                · rw [if_neg c11] at H
                  have c11b0 : ((bt a0 x3_1) == 46) = false := beq_eq_false_iff_ne.mpr c11
                  have c11b1 : ((bt a0 x3_1) != 46) = true := bne_iff_ne.mpr c11
                  by_cases c12 : ((bt a0 x3_1) = 45)
                  · rw [if_pos c12] at H
                    have c12b0 : ((bt a0 x3_1) == 45) = true := beq_iff_eq.mpr c12
                    have c12b1 : ((bt a0 x3_1) != 45) = false := bne_eq_false_iff_eq.mpr c12
                    clear c12
                    have H' := Aside0.mk H
                    clear H
                    have p4 : 0 ≤ (x3_1 : Int) := of_decide_eq_true (by first | (with_reducible assumption) | assumption)
                    have q4 : x3_1 < (a0.size : Int) := of_decide_eq_true (by first | (with_reducible assumption) | assumption)
                    have hx4 := bt_at a0 x3_1
                    replace p4 := eq_true p4
                    replace q4 := eq_true q4
                    go_wp2
                    go_roundg k1
                    case measure => have := HK1.out; omega
                    case rel => exact ⟨(wrap64 (x3_1 + 1)), (by first | rfl | (simp; done) | (simp [*]; done)), H', ⟨by have := HK1.out; omega⟩, by repeat (first | exact Drawn0.refl _ | apply Drawn0.step)⟩
                  · rw [if_neg c12] at H
                    have c12b0 : ((bt a0 x3_1) == 45) = false := beq_eq_false_iff_ne.mpr c12
                    have c12b1 : ((bt a0 x3_1) != 45) = true := bne_iff_ne.mpr c12
                    obtain rfl := Option.some.inj H
                    have p4 : 0 ≤ (x3_1 : Int) := of_decide_eq_true (by first | (with_reducible assumption) | assumption)
                    have q4 : x3_1 < (a0.size : Int) := of_decide_eq_true (by first | (with_reducible assumption) | assumption)
                    have hx4 := bt_at a0 x3_1
                    replace p4 := eq_true p4
                    replace q4 := eq_true q4
                    go_wp2
                    go_ret
                    exact ⟨by first | rfl | (simp; done) | (simp [*]; done), by repeat (first | exact Drawn0.refl _ | apply Drawn0.step)⟩
          · rw [if_neg c5] at H
            have c5b0 : decide (97 ≤ (bt a0 x3_1)) = false := decide_eq_false c5
            clear c5
            by_cases c13 : (bt a0 x3_1) ≥ 48
            · rw [if_pos c13] at H
              have c13b0 : decide (48 ≤ (bt a0 x3_1)) = true := decide_eq_true c13
              clear c13
              by_cases c14 : (bt a0 x3_1) ≤ 57
              · rw [if_pos c14] at H
                have c14b0 : decide ((bt a0 x3_1) ≤ 57) = true := decide_eq_true c14
                clear c14
                have H' := Aside0.mk H
                clear H
                have p4 : 0 ≤ (x3_1 : Int) := of_decide_eq_true (by first | (with_reducible assumption) | assumption)
                have q4 : x3_1 < (a0.size : Int) := of_decide_eq_true (by first | (with_reducible assumption) | assumption)
                have hx4 := bt_at a0 x3_1
                replace p4 := eq_true p4
                replace q4 := eq_true q4
                go_wp2
                go_roundg k1
                case measure => have := HK1.out; omega
                case rel => exact ⟨(wrap64 (x3_1 + 1)), (by first | rfl | (simp; done) | (simp [*]; done)), H', ⟨by have := HK1.out; omega⟩, by repeat (first | exact Drawn0.refl _ | apply Drawn0.step)⟩
              · rw [if_neg c14] at H
                have c14b0 : decide ((bt a0 x3_1) ≤ 57) = false := decide_eq_false c14
                clear c14
                by_cases c15 : (bt a0 x3_1) = 46
                · rw [if_pos c15] at H
                  have c15b0 : ((bt a0 x3_1) == 46) = true := beq_iff_eq.mpr c15
                  have c15b1 : ((bt a0 x3_1) != 46) = false := bne_eq_false_iff_eq.mpr c15
                  clear c15
                  have H' := Aside0.mk H
                  clear H
                  have p4 : 0 ≤ (x3_1 : Int) := of_decide_eq_true (by first | (with_reducible assumption) | assumption)
                  have q4 : x3_1 < (a0.size : Int) := of_decide_eq_true (by first | (with_reducible assumption) | assumption)
                  have hx4 := bt_at a0 x3_1
                  replace p4 := eq_true p4
                  replace q4 := eq_true q4
                  go_wp2
                  go_roundg k1
                  case measure => have := HK1.out; omega
                  case rel => exact ⟨(wrap64 (x3_1 + 1)), (by first | rfl | (simp; done) | (simp [*]; done)), H', ⟨by have := HK1.out; omega⟩, by repeat (first | exact Drawn0.refl _ | apply Drawn0.step)⟩
                · rw [if_neg c15] at H
                  have c15b0 : ((bt a0 x3_1) == 46) = false := beq_eq_false_iff_ne.mpr c15
                  have c15b1 : ((bt a0 x3_1) != 46) = true := bne_iff_ne.mpr c15
                  by_cases c16 : ((bt a0 x3_1) = 45)
                  · rw [if_pos c16] at H
                    have c16b0 : ((bt a0 x3_1) == 45) = true := beq_iff_eq.mpr c16
                    have c16b1 : ((bt a0 x3_1) != 45) = false := bne_eq_false_iff_eq.mpr c16
                    clear c16
                    have H' := Aside0.mk H
                    clear H
                    have p4 : 0 ≤ (x3_1 : Int) := of_decide_eq_true (by first | (with_reducible assumption) | assumption)
                    have q4 : x3_1 < (a0.size : Int) := of_decide_eq_true (by first | (with_reducible assumption) | assumption)
                    have hx4 := bt_at a0 x3_1
                    replace p4 := eq_true p4
                    replace q4 := eq_true q4
                    go_wp2
                    go_roundg k1
                    case measure => have := HK1.out; omega
                    case rel => exact ⟨(wrap64 (x3_1 + 1)), (by first | rfl | (simp; done) | (simp [*]; done)), H', ⟨by have := HK1.out; omega⟩, by repeat (first | exact Drawn0.refl _ | apply Drawn0.step)⟩
                  · rw [if_neg c16] at H
                    have c16b0 : ((bt a0 x3_1) == 45) = false := beq_eq_false_iff_ne.mpr c16
                    have c16b1 : ((bt a0 x3_1) != 45) = true := bne_iff_ne.mpr c16
                    obtain rfl := Option.some.inj H
                    have p4 : 0 ≤ (x3_1 : Int) := of_decide_eq_true (by first | (with_reducible assumption) | assumption)
                    have q4 : x3_1 < (a0.size : Int) := of_decide_eq_true (by first | (with_reducible assumption) | assumption)
                    have hx4 := bt_at a0 x3_1
                    replace p4 := eq_true p4
                    replace q4 := eq_true q4
                    go_wp2
                    go_ret
                    exact ⟨by first | rfl | (simp; done) | (simp [*]; done), by repeat (first | exact Drawn0.refl _ | apply Drawn0.step)⟩
            · rw [if_neg c13] at H
              have c13b0 : decide (48 ≤ (bt a0 x3_1)) = false := decide_eq_false c13
              clear c13
              by_cases c17 : (bt a0 x3_1) = 46
              · rw [if_pos c17] at H
                have c17b0 : ((bt a0 x3_1) == 46) = true := beq_iff_eq.mpr c17
                have c17b1 : ((bt a0 x3_1) != 46) = false := bne_eq_false_iff_eq.mpr c17
                clear c17
                have H' := Aside0.mk H
                clear H
                have p4 : 0 ≤ (x3_1 : Int) := of_decide_eq_true (by first | (with_reducible assumption) | assumption)
                have q4 : x3_1 < (a0.size : Int) := of_decide_eq_true (by first | (with_reducible assumption) | assumption)
                have hx4 := bt_at a0 x3_1
                replace p4 := eq_true p4
                replace q4 := eq_true q4
                go_wp2
                go_roundg k1
                case measure => have := HK1.out; omega
                case rel => exact ⟨(wrap64 (x3_1 + 1)), (by first | rfl | (simp; done) | (simp [*]; done)), H', ⟨by have := HK1.out; omega⟩, by repeat (first | exact Drawn0.refl _ | apply Drawn0.step)⟩
              · rw [if_neg c17] at H
                have c17b0 : ((bt a0 x3_1) == 46) = false := beq_eq_false_iff_ne.mpr c17
                have c17b1 : ((bt a0 x3_1) != 46) = true := bne_iff_ne.mpr c17
                by_cases c18 : ((bt a0 x3_1) = 45)
                · rw [if_pos c18] at H
                  have c18b0 : ((bt a0 x3_1) == 45) = true := beq_iff_eq.mpr c18
                  have c18b1 : ((bt a0 x3_1) != 45) = false := bne_eq_false_iff_eq.mpr c18
                  clear c18
                  have H' := Aside0.mk H
                  clear H
                  have p4 : 0 ≤ (x3_1 : Int) := of_decide_eq_true (by first | (with_reducible assumption) | assumption)
                  have q4 : x3_1 < (a0.size : Int) := of_decide_eq_true (by first | (with_reducible assumption) | assumption)
                  have hx4 := bt_at a0 x3_1
                  replace p4 := eq_true p4
                  replace q4 := eq_true q4
                  go_wp2
                  go_roundg k1
                  case measure => have := HK1.out; omega
                  case rel => exact ⟨(wrap64 (x3_1 + 1)), (by first | rfl | (simp; done) | (simp [*]; done)), H', ⟨by have := HK1.out; omega⟩, by repeat (first | exact Drawn0.refl _ | apply Drawn0.step)⟩
                · rw [if_neg c18] at H
                  have c18b0 : ((bt a0 x3_1) == 45) = false := beq_eq_false_iff_ne.mpr c18
                  have c18b1 : ((bt a0 x3_1) != 45) = true := bne_iff_ne.mpr c18
                  obtain rfl := Option.some.inj H
                  have p4 : 0 ≤ (x3_1 : Int) := of_decide_eq_true (by first | (with_reducible assumption) | assumption)
                  have q4 : x3_1 < (a0.size : Int) := of_decide_eq_true (by first | (with_reducible assumption) | assumption)
                  have hx4 := bt_at a0 x3_1
                  replace p4 := eq_true p4
                  replace q4 := eq_true q4
                  go_wp2
                  go_ret
                  exact ⟨by first | rfl | (simp; done) | (simp [*]; done), by repeat (first | exact Drawn0.refl _ | apply Drawn0.step)⟩
        · rw [if_neg c3] at H
          exact absurd H (by simp)
      · rw [if_neg c2] at H
        have c2b0 : decide (x3_1 < (a0.size : Int)) = false := decide_eq_false c2
        clear c2
        by_cases c19 : (a0.size : Int) ≥ 1
        · rw [if_pos c19] at H
          have c19b0 : decide (1 ≤ (a0.size : Int)) = true := decide_eq_true c19
          have c19b1 : decide (1 ≤ a0.size) = true := decide_eq_true (by omega)
          clear c19
          obtain rfl := Option.some.inj H
          go_wp2
          go_ret
          exact ⟨by first | rfl | (simp; done) | (simp [*]; done), by repeat (first | exact Drawn0.refl _ | apply Drawn0.step)⟩
        · rw [if_neg c19] at H
          have c19b0 : decide (1 ≤ (a0.size : Int)) = false := decide_eq_false c19
          have c19b1 : decide (1 ≤ a0.size) = false := decide_eq_false (by omega)
          clear c19
          obtain rfl := Option.some.inj H
          go_wp2
          go_ret
          exact ⟨by first | rfl | (simp; done) | (simp [*]; done), by repeat (first | exact Drawn0.refl _ | apply Drawn0.step)⟩

/-! ### hostlerref09_Check: function 11 -/
theorem bytes_eq {a b : ByteArray} : a.toList = b.toList ↔ a = b := by
  rw [ByteArray.toList_eq, ByteArray.toList_eq]
  constructor
  · intro h
    cases a; cases b
    simpa using h
  · rintro rfl; rfl
theorem w64 {i : Int} (h0 : 0 ≤ i) (h1 : i < 9223372036854775807) : wrap64 (i + 1) = i + 1 := by unfold wrap64; omega
theorem rdOf_nat (l : List ByteArray) (i : Nat) (h : i < l.length) : rdOf ByteArray.empty l (i : Int) = l[i] := by
  unfold rdOf
  rw [Int.toNat_natCast, List.getD_eq_getElem?_getD, List.getElem?_eq_getElem h]
  rfl
theorem has_from (l : List ByteArray) (s : ByteArray) (hl : l.length ≤ 1000) : ∀ (d k i : Nat), l.length - i = d → i ≤ l.length → d < k → hostlerref09_Has.l0 k l s (i : Int) = some ((l.drop i).any fun x => decide (x = s))
  | 0, k, i, hd, hi, hk => by
    obtain ⟨k, rfl⟩ : ∃ m, k = m + 1 := ⟨k - 1, by omega⟩
    simp only [hostlerref09_Has.l0]
    rw [if_neg (by omega), List.drop_of_length_le (by omega)]
    rfl
  | d + 1, k, i, hd, hi, hk => by
    obtain ⟨k, rfl⟩ : ∃ m, k = m + 1 := ⟨k - 1, by omega⟩
    have hlt : i < l.length := by omega
    simp only [hostlerref09_Has.l0]
    rw [if_pos (by omega), if_pos (by omega), rdOf_nat l i hlt, List.drop_eq_getElem_cons hlt, List.any_cons, w64 (by omega) (by omega)]
    by_cases e : l[i] = s
    · rw [if_pos (bytes_eq.2 e), e]; simp
    · rw [if_neg (fun h => e (bytes_eq.1 h)), show ((i : Int) + 1) = ((i + 1 : Nat) : Int) by omega, has_from l s hl d k (i + 1) (by omega) (by omega) (by omega), decide_eq_false e]
      rfl
theorem has_is (l : List ByteArray) (s : ByteArray) (k : Nat) (hl : l.length ≤ 1000) (hk : l.length < k) : hostlerref09_Has.f k l s = some (Go.Proofs.Ytnnnlbbgmdoehaa.Df.inB l s) := by
  unfold hostlerref09_Has.f Go.Proofs.Ytnnnlbbgmdoehaa.Df.inB
  have := has_from l s hl l.length k 0 (by omega) (by omega) hk
  simpa using this
theorem name_step {α : Type} (b : Int) (h0 : 0 ≤ b) (X Y : α) :
    (if b ≥ 97 then (if b ≤ 122 then X else (if b ≥ 48 then (if b ≤ 57 then X else (if b = 46 then X else (if (b = 45) then X else Y))) else (if b = 46 then X else (if (b = 45) then X else Y)))) else (if b ≥ 48 then (if b ≤ 57 then X else (if b = 46 then X else (if (b = 45) then X else Y))) else (if b = 46 then X else (if (b = 45) then X else Y)))) =
      if Go.Proofs.Ytnnnlbbgmdoehaa.isSign b.toNat then X else Y := by
  have key : Go.Proofs.Ytnnnlbbgmdoehaa.isSign b.toNat = true ↔ ((97 ≤ b ∧ b ≤ 122) ∨ (48 ≤ b ∧ b ≤ 57) ∨ b = 46 ∨ b = 45) := by
    unfold Go.Proofs.Ytnnnlbbgmdoehaa.isSign
    simp only [Bool.or_eq_true, Bool.and_eq_true, decide_eq_true_eq, beq_iff_eq]
    omega
  by_cases hs : Go.Proofs.Ytnnnlbbgmdoehaa.isSign b.toNat = true
  · rw [if_pos hs]
    have := key.1 hs
    repeat' split
    all_goals first | rfl | (exfalso; omega)
  · rw [if_neg hs]
    have : ¬ ((97 ≤ b ∧ b ≤ 122) ∨ (48 ≤ b ∧ b ≤ 57) ∨ b = 46 ∨ b = 45) := fun h => hs (key.2 h)
    repeat' split
    all_goals first | rfl | (exfalso; omega)
theorem bt_nat (s : ByteArray) (i : Nat) (h : i < s.data.toList.length) : bt s (i : Int) = ((s.data.toList[i]).toNat : Int) := by
  have h' : i < s.size := by rw [Array.length_toList] at h; exact h
  unfold bt
  rw [dif_pos (by simpa using h')]
  simp only [Int.toNat_natCast]
  rfl
theorem name_from (s : ByteArray) (hs : s.size ≤ 1000) : ∀ (d k i : Nat), s.size - i = d → i ≤ s.size → d < k →
    hostlerref09_Name.l0 k s (i : Int) = some ((s.data.toList.drop i).all (fun b => Go.Proofs.Ytnnnlbbgmdoehaa.isSign b.toNat) && decide (1 ≤ s.size ∧ s.size ≤ 16))
  | 0, k, i, hd, hi, hk => by
    obtain ⟨k, rfl⟩ : ∃ m, k = m + 1 := ⟨k - 1, by omega⟩
    simp only [hostlerref09_Name.l0]
    rw [if_neg (by omega), List.drop_of_length_le (by rw [Array.length_toList]; show s.size ≤ i; omega)]
    by_cases h1 : 1 ≤ s.size
    · rw [if_pos (by omega)]
      simp only [List.all_nil, Bool.true_and, h1, true_and]
      congr 1
      rw [Bool.eq_iff_iff]; simp; omega
    · rw [if_neg (by omega)]
      simp [h1]
  | d + 1, k, i, hd, hi, hk => by
    obtain ⟨k, rfl⟩ : ∃ m, k = m + 1 := ⟨k - 1, by omega⟩
    have hlt : i < s.data.toList.length := by rw [Array.length_toList]; show i < s.size; omega
    simp only [hostlerref09_Name.l0]
    rw [if_pos (by omega), if_pos (by omega), w64 (by omega) (by omega), show ((i : Int) + 1) = ((i + 1 : Nat) : Int) by omega, name_from s hs d k (i + 1) (by omega) (by omega) (by omega), name_step _ (bt_range s i).1,
      bt_nat s i hlt, Int.toNat_natCast, List.drop_eq_getElem_cons hlt, List.all_cons]
    cases Go.Proofs.Ytnnnlbbgmdoehaa.isSign (s.data.toList[i]).toNat <;> rfl
theorem name_is (s : ByteArray) (k : Nat) (hs : s.size ≤ 1000) (hk : s.size < k) : hostlerref09_Name.f k s = some (Go.Proofs.Ytnnnlbbgmdoehaa.nameB s) := by
  unfold hostlerref09_Name.f
  have := name_from s hs s.size k 0 (by omega) (by omega) hk
  rw [Int.natCast_zero] at this
  rw [this, List.drop_zero]
  unfold Go.Proofs.Ytnnnlbbgmdoehaa.nameB
  congr 1
  rw [Bool.and_comm]
  congr 1
  rw [Bool.eq_iff_iff, Bool.and_eq_true, decide_eq_true_eq, decide_eq_true_eq, decide_eq_true_eq]
  omega
theorem d_trans {w w1 w2 : World} (h : Drawn0 w w1) (h' : Drawn0 w1 w2) : Drawn0 w w2 := by
  obtain ⟨⟨n, rfl⟩⟩ := h'
  exact h.step n
theorem quiet_drawn {f : FuncId} {args : Array Value} {w : World} {a n : Nat} {v : Value} (h : ∀ W, Drawn0 w W → Calls Try.prog f args W fun e w' => e = .returned v ∧ Drawn0 W w') :
    Calls Try.prog f args (w.drewN (a + n)) fun e w'' => e = .returned v ∧ ∃ m, w'' = w.drewN (a + m) :=
  (h _ ((Drawn0.refl w).step _)).mono fun _ _ ⟨he, ⟨m, hm⟩⟩ => ⟨he, n + m, by rw [hm, World.drewN_drewN, Nat.add_assoc]⟩
theorem quiet_drawn0 {f : FuncId} {args : Array Value} {w : World} {n : Nat} {v : Value} (h : ∀ W, Drawn0 w W → Calls Try.prog f args W fun e w' => e = .returned v ∧ Drawn0 W w') :
    Calls Try.prog f args (w.drewN n) fun e w'' => e = .returned v ∧ ∃ m, w'' = w.drewN m :=
  (h _ ((Drawn0.refl w).step _)).mono fun _ _ ⟨he, ⟨m, hm⟩⟩ => ⟨he, n + m, by rw [hm, World.drewN_drewN]⟩
def hostlerref09_Check.f (l0 : List ByteArray) : Option (Int) := Go.Proofs.Ytnnnlbbgmdoehaa.Df.checkF l0
theorem take_dup (l : List ByteArray) : (∀ i (h : i < l.length), Go.Proofs.Ytnnnlbbgmdoehaa.Df.inB (l.take i) l[i] = false) → l.Nodup := by
  intro h
  rw [List.nodup_iff_pairwise_ne, List.pairwise_iff_getElem]
  intro i j hi hj hij e
  have := h j hj
  unfold Go.Proofs.Ytnnnlbbgmdoehaa.Df.inB at this
  rw [List.any_eq_false] at this
  have hm : l[i] ∈ l.take j := List.mem_take_iff_getElem.2 ⟨i, by omega, rfl⟩
  have := this _ hm
  simp [e] at this
theorem take_not_dup (l : List ByteArray) (i : Nat) (h : i < l.length) (hd : Go.Proofs.Ytnnnlbbgmdoehaa.Df.inB (l.take i) l[i] = true) : ¬ l.Nodup := by
  intro hn
  unfold Go.Proofs.Ytnnnlbbgmdoehaa.Df.inB at hd
  obtain ⟨x, hx, e⟩ := List.any_eq_true.1 hd
  obtain ⟨j, hj, rfl⟩ := List.mem_take_iff_getElem.1 hx
  rw [List.nodup_iff_pairwise_ne, List.pairwise_iff_getElem] at hn
  exact hn j i (by omega) h (by omega) (of_decide_eq_true e)
set_option maxHeartbeats 4000000 in
set_option maxRecDepth 100000 in
theorem hostlerref09_Check.calls (A0 : Option Addr) (c0 : Nat) (l0 : List ByteArray) (r : Int) (w : World) (hr0 : Kd.C Kd.string w A0 l0.length l0) (hc0 : l0.length ≤ c0) (h : hostlerref09_Check.f l0 = some r) :
    Calls Try.prog 11 #[.slice A0 l0.length c0] w fun e w' => e = .returned (.int .i64 r) ∧ Drawn0 w w' := by
  unfold hostlerref09_Check.f Go.Proofs.Ytnnnlbbgmdoehaa.Df.checkF at h
  split at h
  · rename_i hs
    cases h
    have hlen := Go.Proofs.Ytnnnlbbgmdoehaa.Df.small_len hs
    have HS := Lib.hid hs
    have HR := Lib.hid hr0
    have HC := Lib.hid hc0
    clear hs hr0 hc0
    obtain ⟨V, hV⟩ : ∃ V, Go.Proofs.Ytnnnlbbgmdoehaa.Df.checkV l0 = V := ⟨_, rfl⟩
    rw [hV]
    have HV := Lib.hid hV
    clear hV
    by_cases h16 : 16 < l0.length
    · have HVV : Hid (V = 13) := Lib.hid (by rw [← HV.out]; unfold Go.Proofs.Ytnnnlbbgmdoehaa.Df.checkV; rw [if_pos h16])
      go_enter Try.func11, Try.ntmps11
      go_wp2
      go_ret
      exact ⟨by rw [HVV.out]; rfl, Drawn0.refl _⟩
    · go_enter Try.func11, Try.ntmps11
      go_wp2
      go_loopw [3] (fun i wr => ∃ k : Nat, k ≤ l0.length ∧ i = .int .i64 k ∧ Hid (∀ j (hj : j < k) (hl : j < l0.length), Go.Proofs.Ytnnnlbbgmdoehaa.nameB l0[j] = true) ∧ Hid (Drawn0 w wr)) (fun i _ => l0.length - (intOf i).toNat)
      case atStart => exact ⟨0, Nat.zero_le _, rfl, Lib.hid (fun j hj => absurd hj (Nat.not_lt_zero _)), Lib.hid (Drawn0.refl _)⟩
      case round =>
        obtain ⟨k, hk, rfl, HT, HB⟩ := hrel
        by_cases hlt : k < l0.length
        · have hsz : (l0[k]).size ≤ 1000 := by
            have := Go.Proofs.Ytnnnlbbgmdoehaa.Df.small_at HS.out hlt
            rwa [List.getD_eq_getElem?_getD, List.getElem?_eq_getElem hlt] at this
          obtain ⟨b, off, rfl, hcells⟩ := Go.Proofs.Ytnnnlbbgmdoehaa.Df.C_cell (Kd.C_below HR.out HB.out.below) hlt
          have hck := hcells k hlt
          rw [List.getD_eq_getElem?_getD, List.getElem?_eq_getElem hlt] at hck
          simp only [Option.getD_some] at hck
          have hnm := name_is l0[k] 1001 hsz (by omega)
          clear hcells
          generalize hg : l0[k] = s at hck hnm
          have HG := Lib.hid hg
          clear hg hsz
          cases hb : Go.Proofs.Ytnnnlbbgmdoehaa.nameB s with
          | true =>
            rw [hb] at hnm
            have HNM := Lib.hid hnm
            have HNB := Lib.hid hb
            clear hb hnm
            go_wp2_with (go_at_call 24; refine (hostlerref09_Name.calls 1001 _ true _ HNM.out).mono ?_; rintro e w' ⟨rfl, hd⟩)
            go_roundw
            case rel => exact ⟨k + 1, by omega, by go_num, Lib.hid (fun j hj hl => by rcases Nat.lt_succ_iff_lt_or_eq.1 hj with h | rfl; exact HT.out j h hl; rw [HG.out]; exact HNB.out), Lib.hid (d_trans HB.out hd)⟩
            case measure => simp [intOf]; omega
          | false =>
            rw [hb] at hnm
            have HVV : Hid (V = 11) := Lib.hid (by
              rw [← HV.out]; unfold Go.Proofs.Ytnnnlbbgmdoehaa.Df.checkV
              rw [if_neg h16, if_pos (List.any_eq_true.2 ⟨s, by rw [← HG.out]; exact List.getElem_mem _, by unfold Go.Proofs.Ytnnnlbbgmdoehaa.Df.badB; rw [hb]; rfl⟩)])
            have HNM := Lib.hid hnm
            clear hb hnm
            go_wp2_with (go_at_call 24; refine (hostlerref09_Name.calls 1001 _ false _ HNM.out).mono ?_; rintro e w' ⟨rfl, hd⟩)
            go_ret
            exact ⟨by rw [HVV.out]; rfl, d_trans HB.out hd⟩
        · obtain rfl : k = l0.length := by omega
          have HVV : Hid (V = if l0.Nodup then 0 else 6) := Lib.hid (by
            rw [← HV.out]; unfold Go.Proofs.Ytnnnlbbgmdoehaa.Df.checkV
            rw [if_neg h16, if_neg]
            intro ha
            obtain ⟨s, hsm, hbad⟩ := List.any_eq_true.1 ha
            obtain ⟨j, hj, rfl⟩ := List.getElem_of_mem hsm
            unfold Go.Proofs.Ytnnnlbbgmdoehaa.Df.badB at hbad
            rw [HT.out j hj hj] at hbad
            cases hbad)
          clear HT
          clear hk hlt
          go_wp2
          go_loopw [5] (fun i wr => ∃ k : Nat, k ≤ l0.length ∧ i = .int .i64 k ∧ Hid (∀ j (hj : j < k) (hl : j < l0.length), Go.Proofs.Ytnnnlbbgmdoehaa.Df.inB (l0.take j) l0[j] = false) ∧ Hid (Drawn0 w wr)) (fun i _ => l0.length - (intOf i).toNat)
          case atStart => exact ⟨0, Nat.zero_le _, rfl, Lib.hid (fun j hj => absurd hj (Nat.not_lt_zero _)), HB⟩
          case round =>
            obtain ⟨k, hk, rfl, HT, HB2⟩ := hrel
            by_cases hlt : k < l0.length
            · have hlt' := hlt
              obtain ⟨b, off, rfl, hcells⟩ := Go.Proofs.Ytnnnlbbgmdoehaa.Df.C_cell (Kd.C_below HR.out HB2.out.below) hlt'
              have hck := hcells k hlt'
              rw [List.getD_eq_getElem?_getD, List.getElem?_eq_getElem hlt'] at hck
              simp only [Option.getD_some] at hck
              obtain ⟨i0, hi0, _, hsz0, _⟩ := info_parts info9
              obtain ⟨hcut, hA, hCa⟩ := print_take_of (P := Try.prog) Value.string (⟨#[]⟩ : ByteArray) 22 9 .i64 Try.underlying22 hi0 hsz0 (some ⟨b, off, none⟩) c0 l0 (k : Int) (by omega) (by omega) HC.out
              rw [Int.toNat_natCast, List.length_take, Nat.min_eq_left (by omega)] at hcut
              have hhas := has_is (l0.take k) l0[k] 1001 (by rw [List.length_take]; omega) (by rw [List.length_take]; omega)
              have hcal : ∀ W, Drawn0 wr W → Calls Try.prog 16 #[.slice (some ⟨b, off, none⟩) k c0, .string l0[k]] W fun e w' => e = .returned (.bool (Go.Proofs.Ytnnnlbbgmdoehaa.Df.inB (l0.take k) l0[k])) ∧ Drawn0 W w' := by
                intro W hW
                have hC2 := Kd.C_of_reads (h1 := fun _ => rfl) (hA _ (Kd.reads_of_C (Kd.C_below HR.out (d_trans HB2.out hW).below)))
                rw [Int.toNat_natCast] at hC2
                have := hostlerref09_Has.calls 1001 _ c0 (l0.take k) l0[k] _ W hC2 (by have := HC.out; rw [List.length_take]; omega) hhas
                rwa [show (l0.take k).length = k by rw [List.length_take]; omega] at this
              have hyes := take_not_dup l0 k hlt'
              clear hcells hA hCa hi0 hsz0 hhas
              generalize hq : Go.Proofs.Ytnnnlbbgmdoehaa.Df.inB (l0.take k) l0[k] = q at hcal hyes
              have HQ := Lib.hid hq
              clear hq
              generalize l0[k] = s at hck hcal
              have HCA := Lib.hid hcal
              have HY := Lib.hid hyes
              clear hcal hyes
              have h0 : 0 ≤ (k : Int) := by omega
              have hwr : IntKind.i64.wrap ((k : Int) + 1) = (k : Int) + 1 := IntWalk.i64_in _ (by omega)
              cases q with
              | false =>
                go_wp2
                go_quiet ((go_at_call 16; exact quiet_drawn0 HCA.out))
                clear hwr
                go_wp2
                go_roundw
                case rel => exact ⟨k + 1, by omega, by go_num, Lib.hid (fun j hj hl => by rcases Nat.lt_succ_iff_lt_or_eq.1 hj with h | rfl; exact HT.out j h hl; exact HQ.out), Lib.hid (HB2.out.step _)⟩
                case measure => simp [intOf]; omega
              | true =>
                have HW : Hid (V = 6) := Lib.hid (by rw [HVV.out, if_neg (HY.out rfl)])
                go_wp2
                go_quiet ((go_at_call 16; exact quiet_drawn0 HCA.out))
                clear hwr
                go_wp2
                go_ret
                exact ⟨by rw [HW.out]; rfl, HB2.out.step _⟩
            · have HW : Hid (V = 0) := Lib.hid (by rw [HVV.out, if_pos (take_dup l0 (fun i hi => HT.out i (by omega) hi))])
              go_wp2
              go_ret
              exact ⟨by rw [HW.out]; rfl, HB2.out⟩
  · cases h

/-! ### hostlerref09_of: function 20 -/
def hostlerref09_of.l0 : Nat → List ByteArray → List ByteArray → Bool → List ByteArray → Int → Option (List ByteArray)
  | 0, _, _, _, _, _ => none
  | k + 1, x0, x1, x2, x7, x8 => if x8 < (x0.length : Int) then (if 0 ≤ x8 then ((hostlerref09_Has.f k x1 (rdOf ByteArray.empty x0 x8)).bind fun t141 => (if (t141 == x2) = true then (if x7.length < 8796093022208 then (hostlerref09_of.l0 k x0 x1 x2 (x7 ++ [rdOf ByteArray.empty x0 x8]) (wrap64 (x8 + 1))) else (none)) else (hostlerref09_of.l0 k x0 x1 x2 x7 (wrap64 (x8 + 1))))) else (none)) else (some x7)
def hostlerref09_of.f (k : Nat) (l0 : List ByteArray) (l1 : List ByteArray) (a2 : Bool) : Option (List ByteArray) := hostlerref09_of.l0 k l0 l1 a2 ([] : List ByteArray) 0
theorem hostlerref09_of.mono_l : ∀ k, (∀ y0 y1 y2 y3 y4, LeO (hostlerref09_of.l0 k y0 y1 y2 y3 y4) (hostlerref09_of.l0 (k + 1) y0 y1 y2 y3 y4))
  | 0 => fun _ _ _ _ _ r h => by simp [hostlerref09_of.l0] at h
  | k + 1 => by
    have ih0 := hostlerref09_of.mono_l k
    · intro y0 y1 y2 y3 y4
      unfold hostlerref09_of.l0
      repeat' first
      | (with_reducible exact ih0 _ _ _ _ _)
      | (with_reducible exact hostlerref09_Has.mono _ _ _)
      | (with_reducible exact LeO.refl _)
      | (with_reducible exact LeO.none _)
      | (with_reducible refine LeO.ite ?_ ?_)
      | (with_reducible refine LeO.bind ?_ (fun _ => ?_))
      | exact ih0 _ _ _ _ _
      | exact hostlerref09_Has.mono _ _ _
      | exact LeO.none _
      | refine LeO.ite ?_ ?_
      | refine LeO.bind ?_ (fun _ => ?_)
theorem hostlerref09_of.mono : ∀ a0 a1 a2 k, LeO (hostlerref09_of.f k a0 a1 a2) (hostlerref09_of.f (k + 1) a0 a1 a2) := by
  intro a0 a1 a2 k
  have ih0 := hostlerref09_of.mono_l k
  unfold hostlerref09_of.f
  repeat' first
      | (with_reducible exact ih0 _ _ _ _ _)
      | (with_reducible exact hostlerref09_Has.mono _ _ _)
      | (with_reducible exact LeO.refl _)
      | (with_reducible exact LeO.none _)
      | (with_reducible refine LeO.ite ?_ ?_)
      | (with_reducible refine LeO.bind ?_ (fun _ => ?_))
      | exact ih0 _ _ _ _ _
      | exact hostlerref09_Has.mono _ _ _
      | exact LeO.none _
      | refine LeO.ite ?_ ?_
      | refine LeO.bind ?_ (fun _ => ?_)
set_option maxHeartbeats 8000000 in
set_option maxRecDepth 100000 in
theorem hostlerref09_of.calls (k : Nat) (A0 : Option Addr) (c0 : Nat) (l0 : List ByteArray) (A1 : Option Addr) (c1 : Nat) (l1 : List ByteArray) (a2 : Bool) (r : List ByteArray) (w : World) (hr0 : Kd.C Kd.string w A0 l0.length l0) (hc0 : l0.length ≤ c0) (hr1 : Kd.C Kd.string w A1 l1.length l1) (hc1 : l1.length ≤ c1) (h : hostlerref09_of.f k l0 l1 a2 = some r) :
    Calls Try.prog 20 #[.slice A0 l0.length c0, .slice A1 l1.length c1, .bool a2] w fun e w' => ∃ v0_ : Value, e = .returned (v0_) ∧ Kd.R Kd.string 9 w' w.heap.size (fun _ => True) v0_ r ∧ Below w.heap.size w w' := by
  have HR0 := Aside0.mk hr0
  have HC0 := Aside0.mk hc0
  clear hr0 hc0
  have HR1 := Aside0.mk hr1
  have HC1 := Aside0.mk hc1
  clear hr1 hc1
  have HB := Aside0.mk (Below.refl w.heap.size w)
  have H : (hostlerref09_of.l0 k l0 l1 a2 ([] : List ByteArray) 0) = some r := h
  clear h
  have H' := Aside0.mk H
  clear H
  go_enter Try.func20, Try.ntmps20
  go_wp2
  go_loopg [7, 8] k (fun kq v7 v8 w' => ∃ (x7_1 : List ByteArray) (x8_1 : Int), v8 = .int .i64 x8_1 ∧ Aside0 (hostlerref09_of.l0 kq l0 l1 a2 x7_1 x8_1 = some r) ∧ Aside0 (kq ≤ k) ∧ Aside0 (Kd.R Kd.string 9 w' w.heap.size (fun _ => True) v7 x7_1) ∧ Aside0 (Below w.heap.size w w'))
  case atStart => exact ⟨(([] : List ByteArray)), (0), (by first | rfl | (simp; done) | (simp [*]; done)), H', ⟨Nat.le_refl _⟩, ⟨by first | exact Kd.R_nil _ _ _ _ _ | exact Kd.N_nil _ _ _ _ _ | exact Kd.V_nil _ _ _ _ _ | exact Kd.Q_nil _ _ _ _ _ | exact Kd.S_nil _ _ _ _ _⟩, ⟨by repeat (first | (with_reducible first | exact HB.out | apply below_alloc | apply pw_below_drewN | apply below_drew1) | exact HB.out)⟩⟩
  case round =>
    clear H'
    try clear c1
    try clear c2
    try clear p2
    obtain ⟨x7_1, x8_1, rfl, HA, HK1, HO_7, HB⟩ := hrel
    cases gk with
    | zero => exact absurd HA.out (by simp [hostlerref09_of.l0])
    | succ k1 =>
      have H := HA.out
      clear HA
      simp only [hostlerref09_of.l0] at H
      by_cases c4 : x8_1 < (l0.length : Int)
      · rw [if_pos c4] at H
        have c4b0 : decide (x8_1 < (l0.length : Int)) = true := decide_eq_true c4
        clear c4
        by_cases c5 : 0 ≤ x8_1
        · rw [if_pos c5] at H
          have c5b0 : decide (0 ≤ x8_1) = true := decide_eq_true c5
          clear c5
          replace H := Option.bind_eq_some_iff.mp H
          obtain ⟨t141, A60, H⟩ := H
          replace H : (if (t141 == a2) = true then (if x7_1.length < 8796093022208 then (hostlerref09_of.l0 k1 l0 l1 a2 (x7_1 ++ [rdOf ByteArray.empty l0 x8_1]) (wrap64 (x8_1 + 1))) else (none)) else (hostlerref09_of.l0 k1 l0 l1 a2 x7_1 (wrap64 (x8_1 + 1)))) = some r := H
          have A6 := Aside0.mk A60
          clear A60
          by_cases c7 : (t141 == a2) = true
          · rw [if_pos c7] at H
            have c7b0 : (t141 == a2) = true := c7
            (try (have c7b1 : decide (t141 = a2) = true := by simpa using c7))
            (try (have c7b2 : (t141 == a2) = true := by simpa using c7))
            clear c7
            by_cases c8 : x7_1.length < 8796093022208
            · rw [if_pos c8] at H
              have LMc8 := Aside0.mk c8
              clear c8
              obtain ⟨y143, hy143⟩ : ∃ y_ : List ByteArray, y_ = (x7_1 ++ [rdOf ByteArray.empty l0 x8_1]) := ⟨_, rfl⟩
              replace H : (hostlerref09_of.l0 k1 l0 l1 a2 y143 (wrap64 (x8_1 + 1))) = some r := by first | (rw [hy143]; with_reducible exact H) | (have H2_ := (Option.bind_some _ _).symm.trans H; rw [hy143]; with_reducible exact H2_) | (have H2_ := (Option.bind_some _ _).symm.trans H; with_reducible exact H2_) | with_reducible exact H | (rw [hy143]; exact H) | exact H
              have Ny143 := Aside0.mk hy143
              clear hy143
              have H' := Aside0.mk H
              clear H
              have p140 : 0 ≤ (x8_1 : Int) := of_decide_eq_true (by first | (with_reducible assumption) | assumption)
              have q140 : x8_1 < (l0.length : Int) := of_decide_eq_true (by first | (with_reducible assumption) | assumption)
              obtain ⟨ad140, e140, hx140_0⟩ := Kd.at_string HR0.out x8_1 p140 q140
              cases e140
              replace hx140_0 := (HB.out.cell (World.block_lt_of_cell? w _ hx140_0)).trans hx140_0
              replace p140 := eq_true p140
              replace q140 := eq_true q140
              go_wp2_with (first | ((with_reducible refine gate_callee (f := 16) rfl ?_); refine goesL_ (some 21) rfl rfl Try.func16 (by kernel_rfl) rfl #[.slice A1 l1.length c1, .string (rdOf ByteArray.empty l0 x8_1)] rfl (by (try simp only [List.map_toArray, List.map_cons, List.map_nil]); first | done | rfl | (simp only [List.length_drop, List.length_take]; rfl)) ?_; (with_reducible refine (hostlerref09_Has.calls k1 _ _ l1 (rdOf ByteArray.empty l0 x8_1) t141 _ ?side1 ?side2 A6.out).mono ?_); (case side1 => repeat (first | exact (Kd.C_below HR1.out HB.out) | (with_reducible refine Kd.C_alloc ?_ _) | (with_reducible refine Kd.C_drewN ?_ _) | (with_reducible refine Kd.C_drew ?_))); (case side2 => exact HC1.out); rintro e w' ⟨rfl, ⟨nd, rfl⟩⟩; refine ⟨_, rfl, ?_⟩; have p142 : 0 ≤ (x8_1 : Int) := of_decide_eq_true (by first | (with_reducible assumption) | assumption); have q142 : x8_1 < (l0.length : Int) := of_decide_eq_true (by first | (with_reducible assumption) | assumption); obtain ⟨ad142, e142, hx142_0⟩ := Kd.at_string HR0.out x8_1 p142 q142; obtain rfl : ad140 = ad142 := (by injection e142); replace hx142_0 := (HB.out.cell (World.block_lt_of_cell? w _ hx142_0)).trans hx142_0; replace p142 := eq_true p142; replace q142 := eq_true q142) | ((with_reducible refine gate_builtin (b := .append) (xs := #[.tmp 25, .tmp 30]) rfl ?_); at_builtin; refine Kd.R_append Kd.string (w0 := w) w.heap.size rfl (.tmp 25) (.tmp 30) 22 9 (.string ⟨#[]⟩) 16 rfl Try.underlying22 info9 rfl (by decide) (by omega) u7 x7_1 (rdOf ByteArray.empty l0 x8_1) [.string (rdOf ByteArray.empty l0 x8_1)] (fun _ => True) (fun _ => False) rfl rfl ?aP (fun _ hk => hk.elim) ?aF ?aO ?aB ?aS ?aL ?_; (case aP => exact rfl); (case aB => exact (by repeat (first | (with_reducible first | exact HB.out | apply below_alloc | apply pw_below_drewN | apply below_drew1) | exact HB.out))); (case aF => exact (fun _ _ => trivial)); (case aO => exact (by (with_reducible repeat (first | apply Kd.R_alloc | apply Kd.R_drewN | apply Kd.R_drew)); exact HO_7.out)); (case aS => exact (below_size (by repeat (first | (with_reducible first | exact HB.out | apply below_alloc | apply pw_below_drewN | apply below_drew1) | exact HB.out)))); (case aL => have := LMc8.out; omega); intro v144 w9 ho hb hg hat; rw [← Ny143.out] at ho; have n0_ := Aside0.mk (hb); have n1_ := Aside0.mk (ho); clear HB; clear HO_7; have HB := n0_; have HO145 := n1_; clear n0_ n1_; clear ho hb hg hat))
              go_roundg k1
              case measure => have := HK1.out; omega
              case rel => exact ⟨(y143), (wrap64 (x8_1 + 1)), (by first | rfl | (simp; done) | (simp [*]; done)), H', ⟨by have := HK1.out; omega⟩, ⟨by (with_reducible repeat (first | apply Kd.R_alloc | apply Kd.R_drewN | apply Kd.R_drew)); exact HO145.out⟩, ⟨by repeat (first | (with_reducible first | exact HB.out | apply below_alloc | apply pw_below_drewN | apply below_drew1) | exact HB.out)⟩⟩
            · rw [if_neg c8] at H
              exact absurd H (by simp)
          · rw [if_neg c7] at H
            have c7b0 : (t141 == a2) = false := by simpa using c7
            (try (have c7b1 : decide (t141 = a2) = false := by simpa using c7))
            (try (have c7b2 : (t141 == a2) = false := by simpa using c7))
            (try (have c7b3 : ¬ (t141 = a2) := by simpa using c7))
            clear c7
            have H' := Aside0.mk H
            clear H
            have p140 : 0 ≤ (x8_1 : Int) := of_decide_eq_true (by first | (with_reducible assumption) | assumption)
            have q140 : x8_1 < (l0.length : Int) := of_decide_eq_true (by first | (with_reducible assumption) | assumption)
            obtain ⟨ad140, e140, hx140_0⟩ := Kd.at_string HR0.out x8_1 p140 q140
            cases e140
            replace hx140_0 := (HB.out.cell (World.block_lt_of_cell? w _ hx140_0)).trans hx140_0
            replace p140 := eq_true p140
            replace q140 := eq_true q140
            go_wp2_with (first | ((with_reducible refine gate_callee (f := 16) rfl ?_); refine goesL_ (some 21) rfl rfl Try.func16 (by kernel_rfl) rfl #[.slice A1 l1.length c1, .string (rdOf ByteArray.empty l0 x8_1)] rfl (by (try simp only [List.map_toArray, List.map_cons, List.map_nil]); first | done | rfl | (simp only [List.length_drop, List.length_take]; rfl)) ?_; (with_reducible refine (hostlerref09_Has.calls k1 _ _ l1 (rdOf ByteArray.empty l0 x8_1) t141 _ ?side1 ?side2 A6.out).mono ?_); (case side1 => repeat (first | exact (Kd.C_below HR1.out HB.out) | (with_reducible refine Kd.C_alloc ?_ _) | (with_reducible refine Kd.C_drewN ?_ _) | (with_reducible refine Kd.C_drew ?_))); (case side2 => exact HC1.out); rintro e w' ⟨rfl, ⟨nd, rfl⟩⟩; refine ⟨_, rfl, ?_⟩))
            go_roundg k1
            case measure => have := HK1.out; omega
            case rel => exact ⟨(x7_1), (wrap64 (x8_1 + 1)), (by first | rfl | (simp; done) | (simp [*]; done)), H', ⟨by have := HK1.out; omega⟩, ⟨by (with_reducible repeat (first | apply Kd.R_alloc | apply Kd.R_drewN | apply Kd.R_drew)); exact HO_7.out⟩, ⟨by repeat (first | (with_reducible first | exact HB.out | apply below_alloc | apply pw_below_drewN | apply below_drew1) | exact HB.out)⟩⟩
        · rw [if_neg c5] at H
          exact absurd H (by simp)
      · rw [if_neg c4] at H
        have c4b0 : decide (x8_1 < (l0.length : Int)) = false := decide_eq_false c4
        clear c4
        obtain rfl := Option.some.inj H
        go_wp2
        go_ret
        exact ⟨_, by first | rfl | (simp [errW_none, errW_some] <;> rfl) | (simp [*, errW_none, errW_some] <;> rfl), by (with_reducible repeat (first | apply Kd.R_alloc | apply Kd.R_drewN | apply Kd.R_drew)); exact HO_7.out, by repeat (first | (with_reducible first | exact HB.out | apply below_alloc | apply pw_below_drewN | apply below_drew1) | exact HB.out)⟩

/-! ### hostlerref09_Diff: function 9 -/
def hostlerref09_Diff.j0 : Nat → List ByteArray → List ByteArray → Bool → Option (List ByteArray × List ByteArray × List ByteArray)
  | 0, _, _, _ => none
  | k + 1, x0, x1, x14 => if x14 = true then (some (([] : List ByteArray), ([] : List ByteArray), ([] : List ByteArray))) else ((hostlerref09_of.f k x1 x0 false).bind fun t148 => ((hostlerref09_of.f k x0 x1 false).bind fun t151 => ((hostlerref09_of.f k x0 x1 true).bind fun t154 => (some (t148, t151, t154)))))
def hostlerref09_Diff.f (k : Nat) (l0 : List ByteArray) (l1 : List ByteArray) : Option (List ByteArray × List ByteArray × List ByteArray) := (hostlerref09_Check.f l0).bind fun t146 => (if t146 = 0 then ((hostlerref09_Check.f l1).bind fun t147 => (hostlerref09_Diff.j0 k l0 l1 (t147 != 0))) else (hostlerref09_Diff.j0 k l0 l1 true))
theorem hostlerref09_Diff.mono_l : ∀ k, (∀ y0 y1 y2, LeO (hostlerref09_Diff.j0 k y0 y1 y2) (hostlerref09_Diff.j0 (k + 1) y0 y1 y2))
  | 0 => fun _ _ _ r h => by simp [hostlerref09_Diff.j0] at h
  | k + 1 => by
    have ih0 := hostlerref09_Diff.mono_l k
    · intro y0 y1 y2
      unfold hostlerref09_Diff.j0
      repeat' first
      | (with_reducible exact ih0 _ _ _)
      | (with_reducible exact hostlerref09_of.mono _ _ _ _)
      | (with_reducible exact LeO.refl _)
      | (with_reducible exact LeO.none _)
      | (with_reducible refine LeO.ite ?_ ?_)
      | (with_reducible refine LeO.bind ?_ (fun _ => ?_))
      | exact ih0 _ _ _
      | exact hostlerref09_of.mono _ _ _ _
      | exact LeO.none _
      | refine LeO.ite ?_ ?_
      | refine LeO.bind ?_ (fun _ => ?_)
theorem hostlerref09_Diff.mono : ∀ a0 a1 k, LeO (hostlerref09_Diff.f k a0 a1) (hostlerref09_Diff.f (k + 1) a0 a1) := by
  intro a0 a1 k
  have ih0 := hostlerref09_Diff.mono_l k
  unfold hostlerref09_Diff.f
  repeat' first
      | (with_reducible exact ih0 _ _ _)
      | (with_reducible exact hostlerref09_of.mono _ _ _ _)
      | (with_reducible exact LeO.refl _)
      | (with_reducible exact LeO.none _)
      | (with_reducible refine LeO.ite ?_ ?_)
      | (with_reducible refine LeO.bind ?_ (fun _ => ?_))
      | exact ih0 _ _ _
      | exact hostlerref09_of.mono _ _ _ _
      | exact LeO.none _
      | refine LeO.ite ?_ ?_
      | refine LeO.bind ?_ (fun _ => ?_)
set_option maxHeartbeats 8000000 in
set_option maxRecDepth 100000 in
theorem hostlerref09_Diff.calls (k : Nat) (A0 : Option Addr) (c0 : Nat) (l0 : List ByteArray) (A1 : Option Addr) (c1 : Nat) (l1 : List ByteArray) (r1 : List ByteArray) (r2 : List ByteArray) (r3 : List ByteArray) (w : World) (hr0 : Kd.C Kd.string w A0 l0.length l0) (hc0 : l0.length ≤ c0) (hr1 : Kd.C Kd.string w A1 l1.length l1) (hc1 : l1.length ≤ c1) (h : hostlerref09_Diff.f k l0 l1 = some (r1, r2, r3)) :
    Calls Try.prog 9 #[.slice A0 l0.length c0, .slice A1 l1.length c1] w fun e w' => ∃ v0_ v1_ v2_ : Value, e = .returned (.tuple #[v0_, v1_, v2_]) ∧ Kd.R Kd.string 9 w' w.heap.size (fun k_ => some k_ ≠ (v1_ : Value).ownBlock ∧ some k_ ≠ (v2_ : Value).ownBlock) v0_ r1 ∧ Kd.R Kd.string 9 w' w.heap.size (fun k_ => some k_ ≠ (v0_ : Value).ownBlock ∧ some k_ ≠ (v2_ : Value).ownBlock) v1_ r2 ∧ Kd.R Kd.string 9 w' w.heap.size (fun k_ => some k_ ≠ (v0_ : Value).ownBlock ∧ some k_ ≠ (v1_ : Value).ownBlock) v2_ r3 ∧ Below w.heap.size w w' := by
  have HR0 := Aside0.mk hr0
  have HC0 := Aside0.mk hc0
  clear hr0 hc0
  have HR1 := Aside0.mk hr1
  have HC1 := Aside0.mk hc1
  clear hr1 hc1
  have HB := Aside0.mk (Below.refl w.heap.size w)
  have H : ((hostlerref09_Check.f l0).bind fun t146 => (if t146 = 0 then ((hostlerref09_Check.f l1).bind fun t147 => (hostlerref09_Diff.j0 k l0 l1 (t147 != 0))) else (hostlerref09_Diff.j0 k l0 l1 true))) = some (r1, r2, r3) := h
  clear h
  have HC3 := Aside0.mk H
  clear H
  go_enter Try.func9, Try.ntmps9
  go_upto_region 1 with (fail)
  go_cut [14] (fun v14 wc => ∃ (kq : Nat) (x14_2 : Bool), v14 = .bool x14_2 ∧ Aside0 (hostlerref09_Diff.j0 kq l0 l1 x14_2 = some (r1, r2, r3)) ∧ Aside0 (kq ≤ k) ∧ Aside0 (Below w.heap.size w wc))
  case first =>
    have H := HC3.out
    clear HC3
    replace H := Option.bind_eq_some_iff.mp H
    obtain ⟨t146, A40, H⟩ := H
    replace H : (if t146 = 0 then ((hostlerref09_Check.f l1).bind fun t147 => (hostlerref09_Diff.j0 k l0 l1 (t147 != 0))) else (hostlerref09_Diff.j0 k l0 l1 true)) = some (r1, r2, r3) := H
    have A4 := Aside0.mk A40
    clear A40
    by_cases c5 : t146 = 0
    · rw [if_pos c5] at H
      have c5b0 : (t146 == 0) = true := beq_iff_eq.mpr c5
      have c5b1 : (t146 != 0) = false := bne_eq_false_iff_eq.mpr c5
      clear c5
      (first | rw [c5b0] | (simp only [i64_w, i32_w]; rw [c5b0]) | skip)
      replace H := Option.bind_eq_some_iff.mp H
      obtain ⟨t147, A60, H⟩ := H
      replace H : (hostlerref09_Diff.j0 k l0 l1 (t147 != 0)) = some (r1, r2, r3) := H
      have A6 := Aside0.mk A60
      clear A60
      have H' := Aside0.mk H
      clear H
      go_wp2_with (first | ((with_reducible refine gate_callee (f := 11) rfl ?_); refine goesL_ (some 8) rfl rfl Try.func11 (by kernel_rfl) rfl #[.slice A0 l0.length c0] rfl (by (try simp only [List.map_toArray, List.map_cons, List.map_nil]); first | done | rfl | (simp only [List.length_drop, List.length_take]; rfl)) ?_; (with_reducible refine (hostlerref09_Check.calls _ _ l0 t146 _ ?side1 ?side2 A4.out).mono ?_); (case side1 => repeat (first | exact (Kd.C_below HR0.out HB.out) | (with_reducible refine Kd.C_alloc ?_ _) | (with_reducible refine Kd.C_drewN ?_ _) | (with_reducible refine Kd.C_drew ?_))); (case side2 => exact HC0.out); rintro e w' ⟨rfl, ⟨nd, rfl⟩⟩; refine ⟨_, rfl, ?_⟩) | (go_at_call 11; (with_reducible refine (hostlerref09_Check.calls _ _ l1 t147 _ ?side1 ?side2 A6.out).mono ?_); (case side1 => repeat (first | exact (Kd.C_below HR1.out (by repeat (first | (with_reducible first | exact HB.out | apply below_alloc | apply pw_below_drewN | apply below_drew1) | exact HB.out))) | (with_reducible refine Kd.C_alloc ?_ _) | (with_reducible refine Kd.C_drewN ?_ _) | (with_reducible refine Kd.C_drew ?_))); (case side2 => exact HC1.out); rintro e w' ⟨rfl, ⟨nd, rfl⟩⟩))
      go_meet
      case rel => exact ⟨_, ((t147 != 0)), (by first | rfl | (simp; done) | (simp [*]; done)), H', ⟨by first | omega | exact Nat.le_refl _⟩, ⟨by repeat (first | (with_reducible first | exact HB.out | apply below_alloc | apply pw_below_drewN | apply below_drew1) | exact HB.out)⟩⟩
    · rw [if_neg c5] at H
      have c5b0 : (t146 == 0) = false := beq_eq_false_iff_ne.mpr c5
      have c5b1 : (t146 != 0) = true := bne_iff_ne.mpr c5
      (first | rw [c5b0] | (simp only [i64_w, i32_w]; rw [c5b0]) | skip)
      have H' := Aside0.mk H
      clear H
      go_wp2_with (first | ((with_reducible refine gate_callee (f := 11) rfl ?_); refine goesL_ (some 8) rfl rfl Try.func11 (by kernel_rfl) rfl #[.slice A0 l0.length c0] rfl (by (try simp only [List.map_toArray, List.map_cons, List.map_nil]); first | done | rfl | (simp only [List.length_drop, List.length_take]; rfl)) ?_; (with_reducible refine (hostlerref09_Check.calls _ _ l0 t146 _ ?side1 ?side2 A4.out).mono ?_); (case side1 => repeat (first | exact (Kd.C_below HR0.out HB.out) | (with_reducible refine Kd.C_alloc ?_ _) | (with_reducible refine Kd.C_drewN ?_ _) | (with_reducible refine Kd.C_drew ?_))); (case side2 => exact HC0.out); rintro e w' ⟨rfl, ⟨nd, rfl⟩⟩; refine ⟨_, rfl, ?_⟩))
      go_meet
      case rel => exact ⟨_, (true), (by first | rfl | (simp; done) | (simp [*]; done)), H', ⟨by first | omega | exact Nat.le_refl _⟩, ⟨by repeat (first | (with_reducible first | exact HB.out | apply below_alloc | apply pw_below_drewN | apply below_drew1) | exact HB.out)⟩⟩
  case rest =>
    clear HC3
    try clear c1
    try clear p2
    try clear c5
    try clear c5b0
    try clear c5b1
    obtain ⟨kq, x14_2, rfl, HA, HJ2, HB⟩ := hcut
    cases kq with
    | zero => exact absurd HA.out (by simp [hostlerref09_Diff.j0])
    | succ kj2 =>
      have H := HA.out
      clear HA
      simp only [hostlerref09_Diff.j0] at H
      by_cases c7 : x14_2 = true
      · subst c7
        have H1 : (some (([] : List ByteArray), ([] : List ByteArray), ([] : List ByteArray))) = some (r1, r2, r3) := by rw [if_pos rfl] at H; exact H
        clear H
        have H := H1
        clear H1
        simp only [Option.some.injEq, Prod.mk.injEq] at H
        obtain ⟨rfl, rfl, rfl⟩ := H
        go_wp2
        go_ret3
        exact ⟨_, _, _, by first | rfl | (simp [errW_none, errW_some] <;> rfl) | (simp [*, errW_none, errW_some] <;> rfl), by first | exact Kd.R_nil _ _ _ _ _ | exact Kd.N_nil _ _ _ _ _ | exact Kd.V_nil _ _ _ _ _ | exact Kd.Q_nil _ _ _ _ _ | exact Kd.S_nil _ _ _ _ _, by first | exact Kd.R_nil _ _ _ _ _ | exact Kd.N_nil _ _ _ _ _ | exact Kd.V_nil _ _ _ _ _ | exact Kd.Q_nil _ _ _ _ _ | exact Kd.S_nil _ _ _ _ _, by first | exact Kd.R_nil _ _ _ _ _ | exact Kd.N_nil _ _ _ _ _ | exact Kd.V_nil _ _ _ _ _ | exact Kd.Q_nil _ _ _ _ _ | exact Kd.S_nil _ _ _ _ _, by repeat (first | (with_reducible first | exact HB.out | apply below_alloc | apply pw_below_drewN | apply below_drew1) | exact HB.out)⟩
      · replace c7 := Bool.eq_false_iff.mpr c7
        subst c7
        have H1 : ((hostlerref09_of.f kj2 l1 l0 false).bind fun t148 => ((hostlerref09_of.f kj2 l0 l1 false).bind fun t151 => ((hostlerref09_of.f kj2 l0 l1 true).bind fun t154 => (some (t148, t151, t154))))) = some (r1, r2, r3) := by rw [if_neg (show ¬ (false = true) by decide)] at H; exact H
        clear H
        have H := H1
        clear H1
        replace H := Option.bind_eq_some_iff.mp H
        obtain ⟨t148, A80, H⟩ := H
        replace H : ((hostlerref09_of.f kj2 l0 l1 false).bind fun t151 => ((hostlerref09_of.f kj2 l0 l1 true).bind fun t154 => (some (t148, t151, t154)))) = some (r1, r2, r3) := H
        have A8 := Aside0.mk A80
        clear A80
        replace H := Option.bind_eq_some_iff.mp H
        obtain ⟨t151, A90, H⟩ := H
        replace H : ((hostlerref09_of.f kj2 l0 l1 true).bind fun t154 => (some (t148, t151, t154))) = some (r1, r2, r3) := H
        have A9 := Aside0.mk A90
        clear A90
        replace H := Option.bind_eq_some_iff.mp H
        obtain ⟨t154, A100, H⟩ := H
        replace H : (some (t148, t151, t154)) = some (r1, r2, r3) := H
        have A10 := Aside0.mk A100
        clear A100
        simp only [Option.some.injEq, Prod.mk.injEq] at H
        obtain ⟨rfl, rfl, rfl⟩ := H
        go_wp2_with (first | ((with_reducible refine gate_callee (f := 20) rfl ?_); refine goesL_ (some 17) rfl rfl Try.func20 (by kernel_rfl) rfl #[.slice A1 l1.length c1, .slice A0 l0.length c0, .bool false] rfl (by (try simp only [List.map_toArray, List.map_cons, List.map_nil]); first | done | rfl | (simp only [List.length_drop, List.length_take]; rfl)) ?_; (with_reducible refine (hostlerref09_of.calls kj2 _ _ l1 _ _ l0 false t148 _ ?side1 ?side2 ?side3 ?side4 A8.out).mono ?_); (case side1 => repeat (first | exact (Kd.C_below HR1.out HB.out) | (with_reducible refine Kd.C_alloc ?_ _) | (with_reducible refine Kd.C_drewN ?_ _) | (with_reducible refine Kd.C_drew ?_))); (case side2 => exact HC1.out); (case side3 => repeat (first | exact (Kd.C_below HR0.out HB.out) | (with_reducible refine Kd.C_alloc ?_ _) | (with_reducible refine Kd.C_drewN ?_ _) | (with_reducible refine Kd.C_drew ?_))); (case side4 => exact HC0.out); rintro e w11 ⟨v149, rfl, ho0, hb⟩; refine ⟨_, rfl, ?_⟩; have n0_ := Aside0.mk (Kd.R_lower ho0 (below_size (by repeat (first | (with_reducible first | exact HB.out | apply below_alloc | apply pw_below_drewN | apply below_drew1) | exact HB.out)))); have n1_ := Aside0.mk (below_step (by repeat (first | (with_reducible first | exact HB.out | apply below_alloc | apply pw_below_drewN | apply below_drew1) | exact HB.out)) hb); clear HB; have HO150 := n0_; have HB := n1_; clear n0_ n1_; (try clear hb); (try clear hb2); (try clear hk); (try clear hi); (try clear ho0)) | ((with_reducible refine gate_callee (f := 20) rfl ?_); refine goesL_ (some 20) rfl rfl Try.func20 (by kernel_rfl) rfl #[.slice A0 l0.length c0, .slice A1 l1.length c1, .bool false] rfl (by (try simp only [List.map_toArray, List.map_cons, List.map_nil]); first | done | rfl | (simp only [List.length_drop, List.length_take]; rfl)) ?_; (with_reducible refine (hostlerref09_of.calls kj2 _ _ l0 _ _ l1 false t151 _ ?side1 ?side2 ?side3 ?side4 A9.out).mono ?_); (case side1 => repeat (first | exact (Kd.C_below HR0.out HB.out) | (with_reducible refine Kd.C_alloc ?_ _) | (with_reducible refine Kd.C_drewN ?_ _) | (with_reducible refine Kd.C_drew ?_))); (case side2 => exact HC0.out); (case side3 => repeat (first | exact (Kd.C_below HR1.out HB.out) | (with_reducible refine Kd.C_alloc ?_ _) | (with_reducible refine Kd.C_drewN ?_ _) | (with_reducible refine Kd.C_drew ?_))); (case side4 => exact HC1.out); rintro e w12 ⟨v152, rfl, ho0, hb⟩; refine ⟨_, rfl, ?_⟩; have n0_ := Aside0.mk (Kd.R_elder' (by (with_reducible repeat (first | apply Kd.R_alloc | apply Kd.R_drewN | apply Kd.R_drew)); exact HO150.out) (Kd.R_base ho0) hb); have n1_ := Aside0.mk (Kd.R_lower (Kd.R_new' ho0 (Kd.R_lt (by (with_reducible repeat (first | apply Kd.R_alloc | apply Kd.R_drewN | apply Kd.R_drew)); exact HO150.out))) (below_size (by repeat (first | (with_reducible first | exact HB.out | apply below_alloc | apply pw_below_drewN | apply below_drew1) | exact HB.out)))); have n2_ := Aside0.mk (below_step (by repeat (first | (with_reducible first | exact HB.out | apply below_alloc | apply pw_below_drewN | apply below_drew1) | exact HB.out)) hb); clear HO150; clear HB; have HO150 := n0_; have HO153 := n1_; have HB := n2_; clear n0_ n1_ n2_; (try clear hb); (try clear hb2); (try clear hk); (try clear hi); (try clear ho0)) | ((with_reducible refine gate_callee (f := 20) rfl ?_); refine goesL_ (some 23) rfl rfl Try.func20 (by kernel_rfl) rfl #[.slice A0 l0.length c0, .slice A1 l1.length c1, .bool true] rfl (by (try simp only [List.map_toArray, List.map_cons, List.map_nil]); first | done | rfl | (simp only [List.length_drop, List.length_take]; rfl)) ?_; (with_reducible refine (hostlerref09_of.calls kj2 _ _ l0 _ _ l1 true t154 _ ?side1 ?side2 ?side3 ?side4 A10.out).mono ?_); (case side1 => repeat (first | exact (Kd.C_below HR0.out HB.out) | (with_reducible refine Kd.C_alloc ?_ _) | (with_reducible refine Kd.C_drewN ?_ _) | (with_reducible refine Kd.C_drew ?_))); (case side2 => exact HC0.out); (case side3 => repeat (first | exact (Kd.C_below HR1.out HB.out) | (with_reducible refine Kd.C_alloc ?_ _) | (with_reducible refine Kd.C_drewN ?_ _) | (with_reducible refine Kd.C_drew ?_))); (case side4 => exact HC1.out); rintro e w13 ⟨v155, rfl, ho0, hb⟩; refine ⟨_, rfl, ?_⟩; have n0_ := Aside0.mk (Kd.R_elder' (by (with_reducible repeat (first | apply Kd.R_alloc | apply Kd.R_drewN | apply Kd.R_drew)); exact HO150.out) (Kd.R_base ho0) hb); have n1_ := Aside0.mk (Kd.R_elder' (by (with_reducible repeat (first | apply Kd.R_alloc | apply Kd.R_drewN | apply Kd.R_drew)); exact HO153.out) (Kd.R_base ho0) hb); have n2_ := Aside0.mk (Kd.R_lower (Kd.R_new' (Kd.R_new' ho0 (Kd.R_lt (by (with_reducible repeat (first | apply Kd.R_alloc | apply Kd.R_drewN | apply Kd.R_drew)); exact HO150.out))) (Kd.R_lt (by (with_reducible repeat (first | apply Kd.R_alloc | apply Kd.R_drewN | apply Kd.R_drew)); exact HO153.out))) (below_size (by repeat (first | (with_reducible first | exact HB.out | apply below_alloc | apply pw_below_drewN | apply below_drew1) | exact HB.out)))); have n3_ := Aside0.mk (below_step (by repeat (first | (with_reducible first | exact HB.out | apply below_alloc | apply pw_below_drewN | apply below_drew1) | exact HB.out)) hb); clear HO150; clear HO153; clear HB; have HO150 := n0_; have HO153 := n1_; have HO156 := n2_; have HB := n3_; clear n0_ n1_ n2_ n3_; (try clear hb); (try clear hb2); (try clear hk); (try clear hi); (try clear ho0)))
        go_ret3
        exact ⟨_, _, _, by first | rfl | (simp [errW_none, errW_some] <;> rfl) | (simp [*, errW_none, errW_some] <;> rfl), by (with_reducible repeat (first | apply Kd.R_alloc | apply Kd.R_drewN | apply Kd.R_drew)); exact Kd.R_mono HO150.out (fun _ hk => ⟨hk.1.2, hk.2⟩), by (with_reducible repeat (first | apply Kd.R_alloc | apply Kd.R_drewN | apply Kd.R_drew)); exact Kd.R_mono HO153.out (fun _ hk => ⟨hk.1.2, hk.2⟩), by (with_reducible repeat (first | apply Kd.R_alloc | apply Kd.R_drewN | apply Kd.R_drew)); exact Kd.R_mono HO156.out (fun _ hk => ⟨hk.1.2, hk.2⟩), by repeat (first | (with_reducible first | exact HB.out | apply below_alloc | apply pw_below_drewN | apply below_drew1) | exact HB.out)⟩

end Go.Proofs.Ytnnnlbbgmdoehaa.PDiffDiffs
