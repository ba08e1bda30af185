/- hostlerref09.Name: may a name be? -/
import Derived.Test.YtghjhcobmbobcaaRn
import Derived.Test.YtghjhcobmbobcaaMem
namespace Go.Proofs.Ytghjhcobmbobcaa.Ad
open Go.RowKit Go.Proofs.Ytghjhcobmbobcaa
theorem sign_split (m : Nat) : (97 ≤ (m : Int) ∧ (m : Int) ≤ 122 ∧ isSign m = true) ∨ (¬ 97 ≤ (m : Int) ∧ 48 ≤ (m : Int) ∧ (m : Int) ≤ 57 ∧ isSign m = true) ∨
    (m = 46 ∧ isSign m = true) ∨ (m = 45 ∧ isSign m = true) ∨
    (¬ 97 ≤ (m : Int) ∧ ¬ 48 ≤ (m : Int) ∧ ((m : Int) == 46) = false ∧ ((m : Int) == 45) = false ∧ isSign m = false) ∨
    (¬ 97 ≤ (m : Int) ∧ 48 ≤ (m : Int) ∧ ¬ (m : Int) ≤ 57 ∧ ((m : Int) == 46) = false ∧ ((m : Int) == 45) = false ∧ isSign m = false) ∨
    (97 ≤ (m : Int) ∧ ¬ (m : Int) ≤ 122 ∧ 48 ≤ (m : Int) ∧ ¬ (m : Int) ≤ 57 ∧ ((m : Int) == 46) = false ∧ ((m : Int) == 45) = false ∧ isSign m = false) := by
  have hb : ∀ a : Int, (m : Int) ≠ a → ((m : Int) == a) = false := fun a h => beq_eq_false_iff_ne.2 h
  have ht : (97 ≤ m ∧ m ≤ 122) ∨ (48 ≤ m ∧ m ≤ 57) ∨ m = 46 ∨ m = 45 → isSign m = true := by
    intro h; unfold isSign; simp; omega
  have hf : ¬ ((97 ≤ m ∧ m ≤ 122) ∨ (48 ≤ m ∧ m ≤ 57) ∨ m = 46 ∨ m = 45) → isSign m = false := by
    intro h; unfold isSign; simp; omega
  by_cases h1 : 97 ≤ m
  · by_cases h2 : m ≤ 122
    · exact .inl ⟨by omega, by omega, ht (by omega)⟩
    · exact .inr (.inr (.inr (.inr (.inr (.inr ⟨by omega, by omega, by omega, by omega, hb _ (by omega), hb _ (by omega), hf (by omega)⟩)))))
  · by_cases h3 : 48 ≤ m
    · by_cases h4 : m ≤ 57
      · exact .inr (.inl ⟨by omega, by omega, by omega, ht (by omega)⟩)
      · exact .inr (.inr (.inr (.inr (.inr (.inl ⟨by omega, by omega, by omega, hb _ (by omega), hb _ (by omega), hf (by omega)⟩)))))
    · by_cases h5 : m = 46
      · exact .inr (.inr (.inl ⟨h5, ht (by omega)⟩))
      · by_cases h6 : m = 45
        · exact .inr (.inr (.inr (.inl ⟨h6, ht (by omega)⟩)))
        · exact .inr (.inr (.inr (.inr (.inl ⟨by omega, by omega, hb _ (by omega), hb _ (by omega), hf (by omega)⟩))))
/-- The first bytes are signs. -/
def signsTo (s : ByteArray) (k : Nat) : Prop := (s.data.toList.take k).all (fun b => isSign b.toNat) = true
theorem signs_more {s : ByteArray} {k : Nat} (h : signsTo s k) (hk : k < s.size) (hx : isSign (s[k]'hk).toNat = true) : signsTo s (k + 1) := by
  have hl : k < s.data.toList.length := by rw [Array.length_toList]; exact hk
  unfold signsTo at h ⊢
  have e : s.data.toList[k] = s[k]'hk := by simp; rfl
  rw [List.take_succ_eq_append_getElem hl, List.all_append, h, e]
  simp [hx]
theorem signs_no {s : ByteArray} {k : Nat} (hk : k < s.size) (hx : isSign (s[k]'hk).toNat = false) : nameB s = false := by
  have hl : k < s.data.toList.length := by rw [Array.length_toList]; exact hk
  have : s.data.toList.all (fun b => isSign b.toNat) = false := by
    rw [List.all_eq_false]
    refine ⟨s.data.toList[k], List.getElem_mem hl, ?_⟩
    have e : s.data.toList[k] = s[k]'hk := by simp; rfl
    rw [e, hx]
    exact Bool.false_ne_true
  unfold nameB
  rw [this, Bool.and_false]
theorem signs_end {s : ByteArray} (h : signsTo s s.size) : nameB s = (decide (s.size ≠ 0) && decide (s.size ≤ 16)) := by
  unfold signsTo at h
  rw [List.take_of_length_le (by simp)] at h
  unfold nameB
  rw [h, Bool.and_true]
set_option maxRecDepth 100000 in
set_option maxHeartbeats 2000000 in
theorem refname_nine (s : ByteArray) (hs : s.size ≤ 9999) (w : World) :
    Calls Try.prog 42 #[.string s] w fun e w' => e = .returned (.bool (nameB s)) ∧ Below w.heap.size w w' := by
  go_enter Try.func42, Try.ntmps42
  go_wp2_with fail
  go_loopw [3] (fun i wr => ∃ k : Nat, k ≤ s.size ∧ i = .int .i64 k ∧ signsTo s k ∧ Below w.heap.size w wr) (fun i _ => s.size - (intOf i).toNat)
  case atStart => exact ⟨0, Nat.zero_le _, rfl, rfl, Below.refl _ _⟩
  case round =>
    obtain ⟨k, hk, rfl, hsg, hb⟩ := hrel
    by_cases hlt : k < s.size
    · have hk1 : (k : Int) < (s.size : Int) := by omega
      have i1 : ∀ W, (Instr.index 9 (.string s) (.int .i64 (k : Int))).run Try.prog W = .ok (.int .u8 ((s[k]'hlt).toNat : Int)) W := fun W => by
        rw [run_index_string W 9 s .i64 k Try.underlying9, dif_pos ⟨by omega, by omega⟩]
        simp
      have HM := Lib.hid (signs_more hsg hlt)
      have HN := Lib.hid (signs_no hlt)
      generalize (s[k]'hlt).toNat = m at *
      clear hsg
      rcases sign_split m with ⟨a1, a2, hx⟩ | ⟨a1, a2, a3, hx⟩ | ⟨rfl, hx⟩ | ⟨rfl, hx⟩ | ⟨a1, a2, a3, a4, hx⟩ | ⟨a1, a2, a3, a4, a5, hx⟩ | ⟨a1, a2, a3, a4, a5, a6, hx⟩
      iterate 4
        · have HX := Lib.hid (HM.out hx)
          clear HM HN hx
          go_wp2_with fail
          go_roundw
          case rel => exact ⟨k + 1, by omega, by push_cast; rfl, HX.out, hb⟩
          case measure => simp [intOf]; omega
      iterate 3
        · have HX := Lib.hid (HN.out hx)
          clear HM HN hx
          go_wp2_with fail
          go_ret
          exact ⟨by rw [HX.out]; rfl, hb⟩
    · obtain rfl : k = s.size := by omega
      have HE := Lib.hid (signs_end hsg)
      clear hsg
      by_cases h0 : 1 ≤ s.size
      · have h0' : (1 : Int) ≤ (s.size : Int) := by omega
        go_wp2_with fail
        go_ret
        refine ⟨?_, hb⟩
        rw [HE.out, decide_eq_true (by omega : s.size ≠ 0), Bool.true_and]
        exact congrArg (fun b => Ending.returned (.bool b)) (decide_eq_decide.2 (by omega))
      · have h0' : ¬ (1 : Int) ≤ (s.size : Int) := by omega
        go_wp2_with fail
        go_ret
        refine ⟨?_, hb⟩
        rw [HE.out, decide_eq_false (by omega : ¬ s.size ≠ 0), Bool.false_and]
        rfl
end Go.Proofs.Ytghjhcobmbobcaa.Ad
