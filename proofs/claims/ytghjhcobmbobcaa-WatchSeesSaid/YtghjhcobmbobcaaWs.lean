/- Sorted lists of ints: one set of members, one list. -/
import Derived.Test.YtghjhcobmbobcaaMap
namespace Go.Proofs.Ytghjhcobmbobcaa.Wt

theorem strict_one : ∀ (a b : List Int), a.Pairwise (· < ·) → b.Pairwise (· < ·) → (∀ i, i ∈ a ↔ i ∈ b) → a = b
  | [], [], _, _, _ => rfl
  | [], y :: r, _, _, h => absurd ((h y).2 List.mem_cons_self) (by simp)
  | x :: s, [], _, _, h => absurd ((h x).1 List.mem_cons_self) (by simp)
  | x :: s, y :: r, ha, hb, h => by
    obtain ⟨ha1, ha2⟩ := List.pairwise_cons.1 ha
    obtain ⟨hb1, hb2⟩ := List.pairwise_cons.1 hb
    have hxy : x = y := by
      rcases List.mem_cons.1 ((h x).1 List.mem_cons_self) with e | e
      · exact e
      · rcases List.mem_cons.1 ((h y).2 List.mem_cons_self) with e2 | e2
        · exact e2.symm
        · have := hb1 x e
          have := ha1 y e2
          omega
    subst hxy
    rw [strict_one s r ha2 hb2 fun i => ?_]
    constructor
    · intro hi
      rcases List.mem_cons.1 ((h i).1 (List.mem_cons_of_mem _ hi)) with e | e
      · have := ha1 i hi; omega
      · exact e
    · intro hi
      rcases List.mem_cons.1 ((h i).2 (List.mem_cons_of_mem _ hi)) with e | e
      · have := hb1 i hi; omega
      · exact e
def sortI (l : List Int) : List Int := l.mergeSort fun x y => decide (x ≤ y)
theorem sortI_mem (l : List Int) (i : Int) : i ∈ sortI l ↔ i ∈ l := (List.mergeSort_perm l _).mem_iff
theorem sortI_strict {l : List Int} (h : l.Nodup) : (sortI l).Pairwise (· < ·) := by
  have h1 : (sortI l).Pairwise (fun x y => decide (x ≤ y) = true) := List.pairwise_mergeSort (by
    intro a b c h1 h2
    simp only [decide_eq_true_eq] at h1 h2 ⊢
    omega) (by
    intro a b
    simp only [Bool.or_eq_true, decide_eq_true_eq]
    omega) l
  have h2 : (sortI l).Nodup := (List.mergeSort_perm l _).nodup_iff.2 h
  have h3 := h1.and h2
  refine h3.imp ?_
  intro a b hab
  have h4 := of_decide_eq_true hab.1
  have h5 := hab.2
  omega
/-- What is collected in whatever order is sorted to one list. -/
theorem sortI_one {a b : List Int} (ha : a.Nodup) (hb : b.Nodup) (h : ∀ i, i ∈ a ↔ i ∈ b) : sortI a = sortI b :=
  strict_one _ _ (sortI_strict ha) (sortI_strict hb) fun i => by rw [sortI_mem, sortI_mem]; exact h i
end Go.Proofs.Ytghjhcobmbobcaa.Wt
