/- The reference's cut, digit. -/
import Derived.Test.YthalpaggcdpcbaaDoorTrN
import Derived.Deep.QuietTactic
namespace Go.Proofs.YthalpaggcdpcbaaDoor.Tr
open Go.RowKit Go.Proofs.YthalpaggcdpcbaaDoor Go.Proofs.YthalpaggcdpcbaaDoor.Nm Go.Proofs.YthalpaggcdpcbaaDoor.Cf
theorem cut_run2 (s : ByteArray) (j : Nat) (hj : j ≤ s.size) (W : World) : (Instr.slice 9 (.string s) (some (.int .i64 (j : Int))) none none).run Tryd.prog W = .ok (.string (bs (s.data.toList.drop j))) W := by
  have h := cut_run s.data.toList j (by simpa using hj) W
  rwa [of_bs] at h
theorem cut_head (s : ByteArray) (j : Nat) (hj : j ≤ s.size) (W : World) : (Instr.slice 9 (.string s) none (some (.int .i64 (j : Int))) none).run Tryd.prog W = .ok (.string (bs (s.data.toList.take j))) W := by
  rw [run_slice_string_h (w := W) (ht := Tryd.underlying9) (kh := .i64) (h := (j : Int)) (h0 := by omega) (h2 := by omega)]
  have e : s.extract 0 j = bs (s.data.toList.take j) := by
    refine (of_bs _).symm.trans ?_
    congr 1
    rw [ByteArray.data_extract, Array.toList_extract, List.extract_eq_take_drop]
    simp
  rw [Int.toNat_natCast, e]
theorem blank_more {s : ByteArray} {j : Nat} (hj : j < s.size) (h : (32 : UInt8) ∉ s.data.toList.take j) (hx : s[j] ≠ 32) : (32 : UInt8) ∉ s.data.toList.take (j + 1) := by
  rw [take_one s j hj]
  intro hm
  rcases List.mem_append.1 hm with hm | hm
  · exact h hm
  · rw [List.mem_singleton] at hm; exact hx hm.symm
theorem blank_hit {s : ByteArray} {j : Nat} (hj : j < s.size) (h : (32 : UInt8) ∉ s.data.toList.take j) (hx : s[j] = 32) : bs (s.data.toList.take j) = cutA s ∧ bs (s.data.toList.drop (j + 1)) = cutB s := by
  have hlt : j < s.data.toList.length := by simpa using hj
  have he : s.data.toList[j] = 32 := by rw [← hx]; rfl
  have hl : s.data.toList = s.data.toList.take j ++ 32 :: s.data.toList.drop (j + 1) := by
    rw [← he, ← List.drop_eq_getElem_cons hlt, List.take_append_drop]
  have hc := cut_blank (a := s.data.toList.take j) (s.data.toList.drop (j + 1)) h
  rw [← hl] at hc
  unfold cutA cutB
  rw [hc]
  exact ⟨rfl, rfl⟩
theorem blank_miss {s : ByteArray} (h : (32 : UInt8) ∉ s.data.toList) : s = cutA s ∧ (⟨#[]⟩ : ByteArray) = cutB s := by
  unfold cutA cutB
  rw [cut_none h]
  exact ⟨(of_bs s).symm, rfl⟩
set_option maxRecDepth 100000 in
set_option maxHeartbeats 4000000 in
theorem refcut_any (s : ByteArray) (hs : s.size ≤ 99999) (w : World) : Calls Tryd.prog 45 #[.string s] w fun e w' => ∃ b, e = .returned (.tuple #[.string (cutA s), .string (cutB s), .bool b]) ∧ Below w.heap.size w w' := by
  go_enter Tryd.func45, Tryd.ntmps45
  go_wp2_with fail
  go_loopw [5] (fun i wr => ∃ j : Nat, j ≤ s.size ∧ i = .int .i64 j ∧ (32 : UInt8) ∉ s.data.toList.take j ∧ B w wr) (fun i _ => s.size - (intOf i).toNat)
  case atStart => exact ⟨0, Nat.zero_le _, rfl, by simp, by repeat (first | with_reducible exact B_refl _ | refine B_drew ?_ | refine B_drewN ?_ _)⟩
  case round =>
    obtain ⟨j, hj, rfl, hno, hr⟩ := hrel
    have BR := Lib.hid hr
    have HNO := Lib.hid hno
    clear hr hno
    by_cases hjm : j < s.size
    · have i1 : ∀ W, (Instr.index 9 (.string s) (.int .i64 (j : Int))).run Tryd.prog W = .ok (.int .u8 ((s[j]'hjm).toNat : Int)) W := fun W => by
        rw [run_index_string W 9 s .i64 j Tryd.underlying9, dif_pos ⟨by omega, by omega⟩]
        simp
      by_cases hx : s[j] = 32
      · have t1 : (((s[j]'hjm).toNat : Int) == 32) = true := by rw [hx]; rfl
        have HBH := Lib.hid (blank_hit hjm HNO.out hx)
        have g1 := cut_head s j (by omega)
        have g2 := cut_run2 s (j + 1) (by omega)
        rw [HBH.out.1] at g1
        rw [HBH.out.2] at g2
        have g3 : ∀ W, (Instr.slice 9 (.string s) (some (.int .i64 ((j : Int) + 1))) none none).run Tryd.prog W = .ok (.string (cutB s)) W := fun W => by have := g2 W; push_cast at this; exact this
        clear g2 hx HBH
        generalize s[j]'hjm = x at *
        go_wp2_with fail
        go_quiet (fail)
        all_goals
          go_wp2_with fail
          go_ret3
          exact ⟨_, rfl, by repeat (first | with_reducible exact BR.out | refine B_drew ?_ | refine B_drewN ?_ _)⟩
      · have t1 : (((s[j]'hjm).toNat : Int) == 32) = false := by
          rw [beq_eq_false_iff_ne]
          intro e
          apply hx
          apply UInt8.toNat_inj.1
          show _ = 32
          omega
        have HBM := Lib.hid (blank_more hjm HNO.out hx)
        clear hx
        generalize s[j]'hjm = x at *
        go_wp2_with fail
        go_roundw
        case rel => exact ⟨j + 1, by omega, by push_cast; rfl, HBM.out, by repeat (first | with_reducible exact BR.out | refine B_drew ?_ | refine B_drewN ?_ _)⟩
        case measure => simp [intOf]; omega
    · obtain rfl : j = s.size := by omega
      have hall : s.data.toList.take s.size = s.data.toList := List.take_of_length_le (by simp)
      have HBM := Lib.hid (blank_miss (s := s) (by rw [← hall]; exact HNO.out))
      go_wp2_with fail
      go_ret3
      exact ⟨false, by rw [← HBM.out.1, ← HBM.out.2]; rfl, by repeat (first | with_reducible exact BR.out | refine B_drew ?_ | refine B_drewN ?_ _)⟩
set_option maxRecDepth 100000 in
theorem refdigit_any (x : UInt8) (w : World) : Calls Tryd.prog 47 #[.int .u8 (x.toNat : Int)] w fun e w' => e = .returned (.int .i64 (digI x)) ∧ w' = w := by
  obtain ⟨r, hr⟩ : ∃ r, digI x = r := ⟨_, rfl⟩
  have h256 := x.toNat_lt
  unfold digI at hr
  rw [show digI x = r from hr]
  by_cases h1 : 48 ≤ x.toNat ∧ x.toNat ≤ 57
  · rw [if_pos h1] at hr
    have a1 : (48 : Int) ≤ (x.toNat : Int) := by omega
    have a2 : (x.toNat : Int) ≤ 57 := by omega
    have u1 : IntKind.u8.wrap ((x.toNat : Int) - 48) = (x.toNat : Int) - 48 := wrap_u8 (by omega) (by omega)
    have u2 : IntKind.i64.wrap ((x.toNat : Int) - 48) = (x.toNat : Int) - 48 := IntWalk.i64_in _ (by omega)
    have HRR := Lib.hid hr
    clear hr h1
    go_enter Tryd.func47, Tryd.ntmps47
    go_wp2_with fail
    go_ret
    exact ⟨by rw [← HRR.out]; rfl, rfl⟩
  · rw [if_neg h1] at hr
    by_cases h2 : 97 ≤ x.toNat ∧ x.toNat ≤ 102
    · rw [if_pos h2] at hr
      have a1 : (97 : Int) ≤ (x.toNat : Int) := by omega
      have a2 : (x.toNat : Int) ≤ 102 := by omega
      have a3 : ¬ (x.toNat : Int) ≤ 57 := by omega
      have a4 : (48 : Int) ≤ (x.toNat : Int) := by omega
      have u1 : IntKind.u8.wrap ((x.toNat : Int) - 97) = (x.toNat : Int) - 97 := wrap_u8 (by omega) (by omega)
      have u2 : IntKind.i64.wrap ((x.toNat : Int) - 97) = (x.toNat : Int) - 97 := IntWalk.i64_in _ (by omega)
      have u3 : IntKind.i64.wrap ((x.toNat : Int) - 97 + 10) = (x.toNat : Int) - 97 + 10 := IntWalk.i64_in _ (by omega)
      have HRR := Lib.hid hr
      clear hr h1 h2
      go_enter Tryd.func47, Tryd.ntmps47
      go_wp2_with fail
      go_ret
      exact ⟨by rw [← HRR.out]; rfl, rfl⟩
    · rw [if_neg h2] at hr
      subst hr
      have b1 : (decide ((48 : Int) ≤ (x.toNat : Int)) && decide ((x.toNat : Int) ≤ 57)) = false := by
        rw [Bool.eq_false_iff]; intro e; rw [Bool.and_eq_true, decide_eq_true_eq, decide_eq_true_eq] at e; omega
      have b2 : (decide ((97 : Int) ≤ (x.toNat : Int)) && decide ((x.toNat : Int) ≤ 102)) = false := by
        rw [Bool.eq_false_iff]; intro e; rw [Bool.and_eq_true, decide_eq_true_eq, decide_eq_true_eq] at e; omega
      have c1 : (x.toNat : Int) < 48 ∨ ((57 : Int) < x.toNat ∧ (x.toNat : Int) < 97) ∨ (102 : Int) < x.toNat := by omega
      clear h1 h2 b1 b2
      rcases c1 with c1 | ⟨c1, c2⟩ | c1
      all_goals
        go_enter Tryd.func47, Tryd.ntmps47
        go_wp2_with fail
        all_goals go_ret
        all_goals exact ⟨rfl, rfl⟩
end Go.Proofs.YthalpaggcdpcbaaDoor.Tr
