/- The errors' words: each has a word of its own (the plain law of AdminWords). -/
import Derived.Test.YtogomkkglcddmaaDoorAdB
namespace Go.Proofs.YtogomkkglcddmaaDoor.Ad
open Go.RowKit Go.Proofs.YtogomkkglcddmaaDoor Go.Proofs.YtogomkkglcddmaaDoor.Nm Go.Proofs.YtogomkkglcddmaaDoor.Cf
theorem ans_in {k : Nat} (hk : k < 14) : answerV (k : Int) = wordsL.getD k ⟨#[]⟩ := by
  have : inE (k : Int) = true := by unfold inE; rw [Bool.and_eq_true, decide_eq_true_eq, decide_eq_true_eq]; omega
  unfold answerV
  rw [this]
  rfl
theorem ans_out {n : Int} (h : inE n = false) : answerV n = bs ([101, 114, 114, 111, 114, 32] ++ Lib.itoa n) := by
  unfold answerV
  rw [h, ← bs_append]
  rfl
theorem itoa_pos (n : Int) : 1 ≤ (Lib.itoa n).length := by
  by_cases h : 0 ≤ n
  · obtain ⟨u, rfl⟩ : ∃ u : Nat, n = u := ⟨n.toNat, by omega⟩
    obtain ⟨c, r, e, _⟩ := decDigits_head u
    rw [Lib.itoa_nonneg, e]
    simp
  · have h1 := tail_itoa n
    have h2 : negOf (Lib.itoa n) = true := by rw [neg_itoa]; exact decide_eq_true (by omega)
    cases hl : Lib.itoa n with
    | nil => rw [hl] at h2; cases h2
    | cons a r => simp
theorem word_size {k : Nat} (hk : k < 14) : (wordsL.getD k ⟨#[]⟩).size < 7 ∧ 1 ≤ (wordsL.getD k ⟨#[]⟩).size ∧ (wordsL.getD k ⟨#[]⟩).data.toList ≠ [101, 114, 114, 111, 114] ∧ ((wordsL.getD k ⟨#[]⟩).data.toList = [111, 107] ↔ k = 0) := by
  match k, hk with
  | 0, _ | 1, _ | 2, _ | 3, _ | 4, _ | 5, _ | 6, _ | 7, _ | 8, _ | 9, _ | 10, _ | 11, _ | 12, _ | 13, _ => exact ⟨by decide, by decide, by decide, by decide⟩
theorem words_inj : ∀ (a b : Fin 14), (wordsL.getD a ⟨#[]⟩).data.toList = (wordsL.getD b ⟨#[]⟩).data.toList → a = b := by decide +kernel
theorem out_size {n : Int} (h : inE n = false) : 7 ≤ (answerV n).size := by
  have := itoa_pos n
  rw [ans_out h, bs_size, List.length_append]
  show 7 ≤ 6 + _
  omega
/-- The words are unlike. -/
theorem ans_inj {a b : Int} (h : answerV a = answerV b) : a = b := by
  cases ha : inE a with
  | true =>
    obtain ⟨j, hj, rfl⟩ := inE_yes ha
    cases hb : inE b with
    | true =>
      obtain ⟨k, hk, rfl⟩ := inE_yes hb
      rw [ans_in hj, ans_in hk] at h
      have := words_inj ⟨j, hj⟩ ⟨k, hk⟩ (congrArg (·.data.toList) h)
      have e : j = k := congrArg Fin.val this
      rw [e]
    | false =>
      have h1 := out_size hb
      rw [← h, ans_in hj] at h1
      have := (word_size hj).1
      omega
  | false =>
    cases hb : inE b with
    | true =>
      obtain ⟨k, hk, rfl⟩ := inE_yes hb
      have h1 := out_size ha
      rw [h, ans_in hk] at h1
      have := (word_size hk).1
      omega
    | false =>
      rw [ans_out ha, ans_out hb] at h
      have := bs_inj h
      exact itoa_inj (List.append_cancel_left this)
theorem ans_ne (a : Int) : 1 ≤ (answerV a).size := by
  cases ha : inE a with
  | true => obtain ⟨j, hj, rfl⟩ := inE_yes ha; rw [ans_in hj]; exact (word_size hj).2.1
  | false => have := out_size ha; omega
theorem ans_short (a : Int) : inE a = (decide ((answerV a).size < 7) && !decide ((answerV a).data.toList = [101, 114, 114, 111, 114])) := by
  cases ha : inE a with
  | true =>
    obtain ⟨j, hj, rfl⟩ := inE_yes ha
    rw [ans_in hj, decide_eq_true (word_size hj).1, decide_eq_false (word_size hj).2.2.1]
    rfl
  | false =>
    have := out_size ha
    rw [decide_eq_false (by omega), Bool.false_and]
theorem ans_ok (a : Int) : (answerV a).data.toList = [111, 107] ↔ a = 0 := by
  cases ha : inE a with
  | true =>
    obtain ⟨j, hj, rfl⟩ := inE_yes ha
    rw [ans_in hj, (word_size hj).2.2.2]
    omega
  | false =>
    have := out_size ha
    constructor
    · intro h
      have h2 : (answerV a).data.toList.length = 2 := by rw [h]; rfl
      have h3 : (answerV a).data.toList.length = (answerV a).size := by simp
      omega
    · rintro rfl
      exact absurd ha (by decide)
end Go.Proofs.YtogomkkglcddmaaDoor.Ad
