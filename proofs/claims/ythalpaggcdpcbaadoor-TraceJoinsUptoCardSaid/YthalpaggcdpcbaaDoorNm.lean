/- Decimal numerals, plainly: what is read of one, what is written. -/
import Derived.Lib.ItoaMem
import Derived.Lib.AtoiAll
import Derived.Lib.Strings
namespace Go.Proofs.YthalpaggcdpcbaaDoor.Nm
open Go.Lib

def isD (c : UInt8) : Bool := decide (48 ≤ c.toNat) && decide (c.toNat ≤ 57)
def valF : Nat → List UInt8 → Nat
  | acc, [] => acc
  | acc, c :: r => valF (acc * 10 + (c.toNat - 48)) r
theorem valF_append : ∀ (a b : List UInt8) (acc : Nat), valF acc (a ++ b) = valF (valF acc a) b
  | [], _, _ => rfl
  | _ :: r, b, _ => valF_append r b _
theorem dig_nat {d : Nat} (h : d < 10) : (UInt8.ofNat (48 + d)).toNat = 48 + d := by
  rw [UInt8.toNat_ofNat']; omega
theorem isD_dig {d : Nat} (h : d < 10) : isD (UInt8.ofNat (48 + d)) = true := by
  unfold isD
  rw [dig_nat h]
  simp only [Bool.and_eq_true, decide_eq_true_eq]
  omega
theorem decDigits_all (u : Nat) : ∀ c ∈ decDigits u, isD c = true := by
  induction u using Nat.strongRecOn with
  | _ u ih =>
    intro c hc
    rw [decDigits] at hc
    split at hc
    · rename_i h
      rw [List.mem_singleton.1 hc]; exact isD_dig h
    · rcases List.mem_append.1 hc with hc | hc
      · exact ih (u / 10) (by omega) c hc
      · rw [List.mem_singleton.1 hc]; exact isD_dig (by omega)
theorem valF_decDigits (u : Nat) : valF 0 (decDigits u) = u := by
  induction u using Nat.strongRecOn with
  | _ u ih =>
    rw [decDigits]
    split
    · rename_i h
      show 0 * 10 + ((UInt8.ofNat (48 + u)).toNat - 48) = u
      rw [dig_nat h]; omega
    · rw [valF_append, ih (u / 10) (by omega)]
      show u / 10 * 10 + ((UInt8.ofNat (48 + u % 10)).toNat - 48) = u
      rw [dig_nat (by omega)]; omega
theorem decDigits_ne (u : Nat) : decDigits u ≠ [] := by
  rw [decDigits]
  split
  · simp
  · simp
theorem decDigits_head (u : Nat) : ∃ c r, decDigits u = c :: r ∧ isD c = true := by
  cases h : decDigits u with
  | nil => exact absurd h (decDigits_ne u)
  | cons c r => exact ⟨c, r, rfl, decDigits_all u c (by rw [h]; simp)⟩
theorem valF_lt : ∀ (l : List UInt8) (acc : Nat), (∀ c ∈ l, isD c = true) → valF acc l < (acc + 1) * 10 ^ l.length
  | [], acc, _ => by show acc < (acc + 1) * 1; omega
  | c :: r, acc, h => by
    have hc := h c (by simp)
    unfold isD at hc
    simp only [Bool.and_eq_true, decide_eq_true_eq] at hc
    have ih := valF_lt r (acc * 10 + (c.toNat - 48)) (fun x hx => h x (by simp [hx]))
    show valF _ r < _
    rw [List.length_cons, Nat.pow_succ]
    refine Nat.lt_of_lt_of_le ih ?_
    rw [show (acc + 1) * (10 ^ r.length * 10) = ((acc + 1) * 10) * 10 ^ r.length by rw [Nat.mul_comm (10 ^ r.length) 10, Nat.mul_assoc]]
    exact Nat.mul_le_mul_right _ (by omega)
theorem parse_val : ∀ (l : List UInt8) (acc : Nat), (∀ c ∈ l, isD c = true) → (acc + 1) * 10 ^ l.length ≤ 1000000000000000000 → parseUint10 acc l = .ok (valF acc l)
  | [], _, _, _ => rfl
  | c :: r, acc, h, hl => by
    have hc := h c (by simp)
    unfold isD at hc
    simp only [Bool.and_eq_true, decide_eq_true_eq] at hc
    rw [List.length_cons, Nat.pow_succ] at hl
    have h1 : 1 ≤ 10 ^ r.length := Nat.one_le_pow _ _ (by decide)
    have h2 : (acc + 1) * 10 * 10 ^ r.length ≤ 1000000000000000000 := by
      rw [Nat.mul_assoc, Nat.mul_comm 10]; exact hl
    have h3 : (acc + 1) * 10 ≤ 1000000000000000000 := Nat.le_trans (Nat.le_mul_of_pos_right _ h1) h2
    unfold parseUint10
    rw [if_pos hc, if_neg (by omega), if_neg (by omega)]
    exact parse_val r _ (fun x hx => h x (by simp [hx])) (Nat.le_trans (Nat.mul_le_mul_right _ (by omega)) h2)
/-- Behind a sign. -/
def tailOf (s : List UInt8) : List UInt8 := match s with
  | [] => []
  | c :: r => if c = 45 then r else c :: r
def negOf (s : List UInt8) : Bool := match s with
  | [] => false
  | c :: _ => c == 45
theorem tail_trim (s : List UInt8) : trimPrefix s [45] = tailOf s := by
  unfold trimPrefix hasPrefix tailOf
  cases s with
  | nil => rfl
  | cons c r =>
    by_cases h : c = 45
    · subst h; simp
    · have : (45 : UInt8) ≠ c := fun e => h e.symm
      simp [h, this]
theorem isD_ne {c : UInt8} (h : isD c = true) : c ≠ 45 ∧ c ≠ 43 ∧ c ≠ 32 ∧ c ≠ 44 := by
  refine ⟨?_, ?_, ?_, ?_⟩ <;> (intro e; subst e; revert h; decide)
theorem isD_nat {c : UInt8} (h : isD c = true) : c.toNat ≠ 45 ∧ c.toNat ≠ 43 := by
  unfold isD at h
  simp only [Bool.and_eq_true, decide_eq_true_eq] at h
  omega
theorem tail_itoa (n : Int) : tailOf (itoa n) = decDigits n.natAbs := by
  unfold itoa
  split
  · simp [tailOf]
  · rename_i h
    have e : n.toNat = n.natAbs := by omega
    rw [e]
    obtain ⟨c, r, hd, hc⟩ := decDigits_head n.natAbs
    rw [hd]
    show (if c = 45 then r else c :: r) = c :: r
    rw [if_neg (isD_ne hc).1]
theorem neg_itoa (n : Int) : negOf (itoa n) = decide (n < 0) := by
  unfold itoa
  split
  · rename_i h; simp [negOf, h]
  · rename_i h
    obtain ⟨c, r, hd, hc⟩ := decDigits_head n.toNat
    rw [hd]
    simp [negOf, h, (isD_ne hc).1]
theorem itoa_inj {a b : Int} (h : itoa a = itoa b) : a = b := by
  have h1 := congrArg tailOf h
  have h2 := congrArg negOf h
  rw [tail_itoa, tail_itoa] at h1
  rw [neg_itoa, neg_itoa] at h2
  have h3 := congrArg (valF 0) h1
  rw [valF_decDigits, valF_decDigits] at h3
  by_cases ha : a < 0
  · have : b < 0 := by simpa [ha] using h2
    omega
  · have : ¬ b < 0 := by simpa [ha] using h2
    omega
theorem atoi_itoa (n : Int) (h : (tailOf (itoa n)).length ≤ 9) : atoiAll (itoa n) = .ok n := by
  rw [tail_itoa] at h
  have hall := decDigits_all n.natAbs
  have hv := valF_decDigits n.natAbs
  have hp : parseUint10 0 (decDigits n.natAbs) = .ok n.natAbs := by
    have hpow : 10 ^ (decDigits n.natAbs).length ≤ 10 ^ 9 := Nat.pow_le_pow_right (by decide) h
    rw [parse_val _ 0 hall (by omega), hv]
  have hlt := valF_lt _ 0 hall
  have hpow : 10 ^ (decDigits n.natAbs).length ≤ 10 ^ 9 := Nat.pow_le_pow_right (by decide) h
  rw [hv] at hlt
  have hm : parseMag (decDigits n.natAbs) = .ok n.natAbs := by
    unfold parseMag
    rw [if_neg (decDigits_ne _), hp]
  unfold itoa
  split
  · rename_i hn
    unfold atoiAll
    simp only
    rw [if_pos (.inr (by decide)), hm]
    simp only
    rw [if_neg (by intro e; exact e.1 (by decide)), if_neg (by omega), if_pos (by decide)]
    congr 1; omega
  · rename_i hn
    have e : n.toNat = n.natAbs := by omega
    rw [e]
    obtain ⟨c, r, hd, hc⟩ := decDigits_head n.natAbs
    have hne := isD_nat hc
    rw [hd] at hm ⊢
    unfold atoiAll
    simp only
    rw [if_neg (by omega), hm]
    simp only
    rw [if_neg (by omega), if_neg (by omega), if_neg hne.1]
    congr 1; omega
/-- The number that a text is, as it would be written, of nine digits at most. -/
def numOf (s : List UInt8) : Option Int := match atoiAll s with
  | .ok v => if itoa v = s ∧ (tailOf s).length ≤ 9 then some v else none
  | _ => none
theorem numOf_itoa {n : Int} (h : (tailOf (itoa n)).length ≤ 9) : numOf (itoa n) = some n := by
  unfold numOf
  rw [atoi_itoa n h]
  show (if itoa n = itoa n ∧ (tailOf (itoa n)).length ≤ 9 then some n else none) = some n
  rw [if_pos ⟨rfl, h⟩]
theorem numOf_some {s : List UInt8} {n : Int} (h : numOf s = some n) : itoa n = s ∧ (tailOf s).length ≤ 9 ∧ atoiAll s = .ok n := by
  unfold numOf at h
  split at h
  · rename_i v hv
    split at h
    · rename_i h2
      cases h
      exact ⟨h2.1, h2.2, hv⟩
    · cases h
  · cases h
theorem numOf_none {s : List UInt8} {v : Int} (h : numOf s = none) (hv : atoiAll s = .ok v) : ¬ (itoa v = s ∧ (tailOf s).length ≤ 9) := by
  intro e
  unfold numOf at h
  rw [hv] at h
  simp only at h
  rw [if_pos e] at h
  cases h
/-- The reference's way: ten digits at most are read. -/
def refVal (s : List UInt8) : Int := if negOf s then -((valF 0 ((tailOf s).take 10) : Nat) : Int) else ((valF 0 ((tailOf s).take 10) : Nat) : Int)
def refOk (s : List UInt8) : Bool := ((tailOf s).take 10).all isD && (decide ((tailOf s).length ≤ 9) && decide (itoa (refVal s) = s))
theorem refVal_itoa {n : Int} (h : (tailOf (itoa n)).length ≤ 9) : refVal (itoa n) = n := by
  unfold refVal
  rw [List.take_of_length_le (by omega), neg_itoa, tail_itoa, valF_decDigits]
  by_cases hn : n < 0
  · simp only [hn, decide_true, if_true]; omega
  · simp only [hn, decide_false, Bool.false_eq_true, if_false]; omega
theorem refOk_iff (s : List UInt8) : refOk s = (numOf s).isSome := by
  cases h : numOf s with
  | some n =>
    obtain ⟨h1, h2, _⟩ := numOf_some h
    subst h1
    unfold refOk
    rw [refVal_itoa h2, List.take_of_length_le (by omega), tail_itoa]
    rw [tail_itoa] at h2
    simp only [decide_true, Bool.and_true, Option.isSome_some, Bool.and_eq_true, decide_eq_true_eq]
    exact ⟨List.all_eq_true.2 (decDigits_all _), h2⟩
  | none =>
    cases hr : refOk s with
    | false => rfl
    | true =>
      unfold refOk at hr
      simp only [Bool.and_eq_true, decide_eq_true_eq] at hr
      obtain ⟨_, h2, h3⟩ := hr
      rw [← h3] at h2 h
      rw [numOf_itoa h2] at h
      cases h
theorem refVal_ok {s : List UInt8} {n : Int} (h : numOf s = some n) : refVal s = n := by
  obtain ⟨h1, h2, _⟩ := numOf_some h
  subst h1
  exact refVal_itoa h2
theorem numOf_bound {s : List UInt8} {n : Int} (h : numOf s = some n) : -999999999 ≤ n ∧ n ≤ 999999999 := by
  obtain ⟨h1, h2, _⟩ := numOf_some h
  subst h1
  rw [tail_itoa] at h2
  have hlt := valF_lt _ 0 (decDigits_all n.natAbs)
  have hpow : 10 ^ (decDigits n.natAbs).length ≤ 10 ^ 9 := Nat.pow_le_pow_right (by decide) h2
  rw [valF_decDigits] at hlt
  omega
/-- A number of nine digits at most has nine digits at most. -/
theorem itoa_short {n : Int} (h1 : -999999999 ≤ n) (h2 : n ≤ 999999999) : (tailOf (itoa n)).length ≤ 9 := by
  rw [tail_itoa, decDigits_length]
  have : n.natAbs < 10 ^ 9 := by omega
  generalize n.natAbs = u at this
  have key : ∀ (k u : Nat), u < 10 ^ (k + 1) → nDigits u ≤ k + 1 := by
    intro k
    induction k with
    | zero => intro u hu; rw [nDigits_small (by simpa using hu)]; exact Nat.le_refl _
    | succ k ih =>
      intro u hu
      by_cases h : u < 10
      · rw [nDigits_small h]; omega
      · rw [nDigits_big h]
        have := ih (u / 10) (by rw [Nat.pow_succ] at hu; omega)
        omega
  exact key 8 u this
end Go.Proofs.YthalpaggcdpcbaaDoor.Nm
