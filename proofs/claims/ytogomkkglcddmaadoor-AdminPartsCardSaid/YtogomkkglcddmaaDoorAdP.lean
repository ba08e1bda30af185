/- The admin's commands, plainly: what a line says, and the line of a command; there and back. -/
import Derived.Test.YtogomkkglcddmaaDoorAdE
import Derived.Test.YtogomkkglcddmaaDoorCfP
import Derived.Test.YtogomkkglcddmaaDoorRn
namespace Go.Proofs.YtogomkkglcddmaaDoor.Ad
open Go.RowKit Go.Proofs.YtogomkkglcddmaaDoor Go.Proofs.YtogomkkglcddmaaDoor.Nm Go.Proofs.YtogomkkglcddmaaDoor.Cf
/-- No text. -/
def e0 : ByteArray := ⟨#[]⟩
def idxV (x : ByteArray) : Int := Lib.idxOfS verbsL x
theorem idxV_if (x : ByteArray) : idxV x = if verbsL.getD 0 e0 = x then 0 else if verbsL.getD 1 e0 = x then 1 else if verbsL.getD 2 e0 = x then 2 else if verbsL.getD 3 e0 = x then 3 else if verbsL.getD 4 e0 = x then 4 else if verbsL.getD 5 e0 = x then 5 else -1 := by
  unfold idxV Lib.idxOfS verbsL
  simp only [Lib.idxFromS]
  rfl
theorem verb_at (k : Fin 6) : idxV (verbsL.getD k.val e0) = (k.val : Int) := by
  revert k
  decide +kernel
theorem idxV_cases (x : ByteArray) : (∃ k, k < 6 ∧ x = verbsL.getD k e0 ∧ idxV x = (k : Int)) ∨ (idxV x = -1 ∧ ∀ k, k < 6 → verbsL.getD k e0 ≠ x) := by
  have h := idxV_if x
  by_cases h0 : verbsL.getD 0 e0 = x
  · exact .inl ⟨0, by omega, h0.symm, by rw [h, if_pos h0]; rfl⟩
  by_cases h1 : verbsL.getD 1 e0 = x
  · exact .inl ⟨1, by omega, h1.symm, by rw [h, if_neg h0, if_pos h1]; rfl⟩
  by_cases h2 : verbsL.getD 2 e0 = x
  · exact .inl ⟨2, by omega, h2.symm, by rw [h, if_neg h0, if_neg h1, if_pos h2]; rfl⟩
  by_cases h3 : verbsL.getD 3 e0 = x
  · exact .inl ⟨3, by omega, h3.symm, by rw [h, if_neg h0, if_neg h1, if_neg h2, if_pos h3]; rfl⟩
  by_cases h4 : verbsL.getD 4 e0 = x
  · exact .inl ⟨4, by omega, h4.symm, by rw [h, if_neg h0, if_neg h1, if_neg h2, if_neg h3, if_pos h4]; rfl⟩
  by_cases h5 : verbsL.getD 5 e0 = x
  · exact .inl ⟨5, by omega, h5.symm, by rw [h, if_neg h0, if_neg h1, if_neg h2, if_neg h3, if_neg h4, if_pos h5]; rfl⟩
  refine .inr ⟨by rw [h, if_neg h0, if_neg h1, if_neg h2, if_neg h3, if_neg h4, if_neg h5], fun k hk => ?_⟩
  match k, hk with
  | 0, _ => exact h0
  | 1, _ => exact h1
  | 2, _ => exact h2
  | 3, _ => exact h3
  | 4, _ => exact h4
  | 5, _ => exact h5
theorem idxV_range (x : ByteArray) : -1 ≤ idxV x ∧ idxV x < 6 := by
  rcases idxV_cases x with ⟨k, hk, _, h⟩ | ⟨h, _⟩ <;> omega
/-- The reference's loop over the verbs, behind k rounds. -/
def roundV (x : ByteArray) (k : Nat) : Int := if 0 ≤ idxV x ∧ idxV x < k then idxV x else -1
theorem roundV_0 (x : ByteArray) : roundV x 0 = -1 := by
  unfold roundV
  rw [if_neg (by omega)]
theorem roundV_6 (x : ByteArray) : roundV x 6 = idxV x := by
  have := idxV_range x
  unfold roundV
  split <;> omega
theorem roundV_hit {x : ByteArray} {k : Nat} (hk : k < 6) (h : verbsL.getD k e0 = x) : roundV x (k + 1) = (k : Int) := by
  have := verb_at ⟨k, hk⟩
  simp only at this
  rw [h] at this
  unfold roundV
  rw [if_pos (by omega), this]
theorem roundV_miss {x : ByteArray} {k : Nat} (hk : k < 6) (h : verbsL.getD k e0 ≠ x) : roundV x (k + 1) = roundV x k := by
  have hn : idxV x ≠ (k : Int) := by
    intro e
    rcases idxV_cases x with ⟨j, hj, hx, h2⟩ | ⟨h2, _⟩
    · obtain rfl : j = k := by omega
      exact h hx.symm
    · omega
  unfold roundV
  by_cases h1 : 0 ≤ idxV x ∧ idxV x < k
  · rw [if_pos h1, if_pos (by omega)]
  · rw [if_neg h1, if_neg (by omega)]
/-- The command of the pieces of a line, and the error. -/
def parseL (l : List ByteArray) : Int × ByteArray × Int :=
  if idxV (l.getD 0 e0) < 0 then (0, e0, 12)
  else if 4 ≤ idxV (l.getD 0 e0) then (if l.length = 1 then (idxV (l.getD 0 e0), e0, 0) else (0, e0, 12))
  else if l.length = 2 then (if nameB (l.getD 1 e0) = true then (idxV (l.getD 0 e0), l.getD 1 e0, 0) else (0, e0, 11)) else (0, e0, 12)
def parseV (s : ByteArray) : Int × ByteArray × Int := if 400 < s.size then (0, e0, 13) else parseL (cutV 32 s)
/-- The line of a command, and the error. -/
def printV (v : Int) (n : ByteArray) : ByteArray × Int :=
  if v < 0 ∨ 5 < v ∨ (4 ≤ v ∧ n.size ≠ 0) then (e0, 12)
  else if 4 ≤ v then (verbV v, 0)
  else if nameB n = true then (verbV v ++ (bs [32] ++ n), 0) else (e0, 11)
theorem cutV_ne (c : UInt8) (s : ByteArray) : ∃ x r, cutV c s = x :: r := by
  cases h : cutV c s with
  | nil =>
    have := cutV_len c s
    rw [h] at this
    simp at this
  | cons x r => exact ⟨x, r, rfl⟩
theorem name_clean {n : ByteArray} (h : nameB n = true) : (32 : UInt8) ∉ n.data.toList ∧ n.size ≤ 16 ∧ n.size ≠ 0 := by
  unfold nameB at h
  rw [Bool.and_eq_true, Bool.and_eq_true, decide_eq_true_eq, decide_eq_true_eq] at h
  refine ⟨fun hm => ?_, h.1.2, h.1.1⟩
  have := List.all_eq_true.1 h.2 32 hm
  exact absurd this (by decide)
theorem size_zero {n : ByteArray} (h : n.size = 0) : n = e0 := by
  cases n with
  | mk d => exact congrArg ByteArray.mk (Array.eq_empty_of_size_eq_zero h)
theorem verb_clean (k : Fin 6) : (32 : UInt8) ∉ (verbsL.getD k.val e0).data.toList ∧ (verbsL.getD k.val e0).size ≤ 7 := by
  revert k
  decide +kernel
theorem cut_clean {s : ByteArray} (h : (32 : UInt8) ∉ s.data.toList) : cutV 32 s = [s] := by
  refine (cutV_one ⟨by simp, ?_, ?_⟩).symm
  · intro x hx
    simp only [List.map_cons, List.map_nil, List.mem_singleton] at hx
    rw [hx]; exact h
  · simp [Lib.join_one]
theorem cut_two {a b : ByteArray} (ha : (32 : UInt8) ∉ a.data.toList) (hb : (32 : UInt8) ∉ b.data.toList) : cutV 32 (a ++ (bs [32] ++ b)) = [a, b] := by
  refine (cutV_one ⟨by simp, ?_, ?_⟩).symm
  · intro x hx
    simp only [List.map_cons, List.map_nil, List.mem_cons, List.not_mem_nil, or_false] at hx
    rcases hx with rfl | rfl
    · exact ha
    · exact hb
  · simp only [List.map_cons, List.map_nil]
    rw [Sp.join_two, Lib.join_one]
    simp [ByteArray.data_append, bs_list]
theorem verbV_at {k : Nat} (hk : k < 6) : verbV (k : Int) = verbsL.getD k e0 := by
  have h : inB (k : Int) = true := by unfold inB; rw [Bool.and_eq_true, decide_eq_true_eq, decide_eq_true_eq]; omega
  unfold verbV
  rw [h]
  rfl
/-- What is printed is parsed as it was. -/
theorem print_back {v : Int} {n s : ByteArray} (h : printV v n = (s, 0)) : parseV s = (v, n, 0) := by
  unfold printV at h
  split at h
  · cases h
  · rename_i h1
    obtain ⟨k, rfl⟩ : ∃ k : Nat, v = k := ⟨v.toNat, by omega⟩
    have hk : k < 6 := by omega
    have hc := verb_clean ⟨k, hk⟩
    have hi := verb_at ⟨k, hk⟩
    simp only at hc hi
    split at h
    · rename_i h4
      cases h
      have h0 : n.size = 0 := by
        rcases Nat.eq_zero_or_pos n.size with h | h
        · exact h
        · exact absurd (.inr (.inr ⟨h4, by omega⟩)) h1
      rw [verbV_at hk, size_zero h0]
      unfold parseV
      rw [if_neg (by omega), cut_clean hc.1]
      unfold parseL
      rw [List.getD_cons_zero, hi, if_neg (by omega), if_pos (by omega), if_pos (by rfl)]
    · rename_i h4
      split at h
      · rename_i hn
        cases h
        have hm := name_clean hn
        rw [verbV_at hk]
        have hsz : ¬ 400 < (verbsL.getD k e0 ++ (bs [32] ++ n)).size := by
          rw [ByteArray.size_append, ByteArray.size_append, bs_size]
          show ¬ 400 < _ + (1 + n.size)
          omega
        unfold parseV
        rw [if_neg hsz, cut_two hc.1 hm.1]
        unfold parseL
        rw [List.getD_cons_zero, hi, if_neg (by omega), if_neg h4, if_pos (by rfl), List.getD_cons_succ, List.getD_cons_zero, if_pos hn]
      · cases h
theorem printV_err (v : Int) (n : ByteArray) : (printV v n).2 = 0 ∨ ((printV v n).1 = e0 ∧ ((printV v n).2 = 12 ∨ (printV v n).2 = 11)) := by
  unfold printV
  split
  · exact .inr ⟨rfl, .inl rfl⟩
  · split
    · exact .inl rfl
    · split
      · exact .inl rfl
      · exact .inr ⟨rfl, .inr rfl⟩
theorem print_one {v u : Int} {n m s t : ByteArray} (h : printV v n = (s, 0)) (h' : printV u m = (t, 0)) : s = t ↔ (v = u ∧ n = m) := by
  constructor
  · rintro rfl
    have h1 := print_back h
    have h2 := print_back h'
    rw [h1] at h2
    injection h2 with h2 h3
    injection h3 with h3 _
    exact ⟨h2, h3⟩
  · rintro ⟨rfl, rfl⟩
    rw [h] at h'
    injection h'
theorem printV_size (v : Int) (n : ByteArray) : (printV v n).1.size ≤ 30 := by
  unfold printV
  split
  · show 0 ≤ 30; omega
  · rename_i h1
    obtain ⟨k, rfl⟩ : ∃ k : Nat, v = k := ⟨v.toNat, by omega⟩
    have hk : k < 6 := by omega
    have hc := verb_clean ⟨k, hk⟩
    simp only at hc
    split
    · rw [verbV_at hk]
      show (verbsL.getD k e0).size ≤ 30
      omega
    · split
      · rename_i hn
        have hm := name_clean hn
        rw [verbV_at hk]
        show (verbsL.getD k e0 ++ (bs [32] ++ n)).size ≤ 30
        rw [ByteArray.size_append, ByteArray.size_append, bs_size]
        show _ + (1 + n.size) ≤ 30
        omega
      · show 0 ≤ 30; omega
end Go.Proofs.YtogomkkglcddmaaDoor.Ad
