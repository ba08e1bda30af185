/- Slices written in place: a cell, a row of cells, cleared. -/
import Derived.Test.YthalpaggcdpcbaaDoorMem
import Derived.Lib.SliceRun
namespace Go.Proofs.YthalpaggcdpcbaaDoor
open Go.RowKit
section
variable {w : World} {e : TypeId} {size n g o c : Nat} {xs : List Value}
theorem Sl.take {A : Option Addr} (h : Sl w e size (.slice A n c) n xs) {k : Nat} (hk : k ≤ n) : Sl w e size (.slice A k c) k (xs.take (k * size)) := by
  obtain ⟨h1, h2⟩ := h
  have hks : k * size ≤ n * size := Nat.mul_le_mul_right _ hk
  refine ⟨by rw [List.length_take, h1]; omega, ?_⟩
  rcases h2 with ⟨he, h0⟩ | ⟨g, o, c', cur, he, hg, hnc, hm, hs, ht⟩
  · injection he with ha hb hc
    subst ha; subst hc
    obtain rfl : k = 0 := by omega
    exact .inl ⟨rfl, rfl⟩
  · injection he with ha _ hc
    subst ha; subst hc
    refine .inr ⟨g, o, c, cur, rfl, hg, by omega, hm, hs, ?_⟩
    rw [← ht, List.take_take, Nat.min_eq_left hks]
theorem Sl.puts (h : Sl w e size (.slice (some ⟨g, o, none⟩) n c) n xs) (i : Nat) (vs : List Value) (hi : i + vs.length ≤ n * size) :
    Sl (w.setCells g (o + i) vs) e size (.slice (some ⟨g, o, none⟩) n c) n (xs.take i ++ vs ++ xs.drop (i + vs.length)) := by
  obtain ⟨h1, h2⟩ := h
  refine ⟨by simp only [List.length_append, List.length_take, List.length_drop, h1]; omega, ?_⟩
  rcases h2 with ⟨he, h0⟩ | ⟨g', o', c', cur, he, hg, hnc, hm, hs, ht⟩
  · injection he with ha; cases ha
  · injection he with ha _ hc
    injection ha with ha
    injection ha with ha1 ha2
    subst ha1 ha2 hc
    have hnc2 : n * size ≤ c * size := Nat.mul_le_mul_right _ hnc
    obtain ⟨cur', k1, k2, k3⟩ := setCells_at vs (o + i) w cur hg (by omega)
    refine .inr ⟨g, o, c, cur', rfl, k1, hnc, hm, by omega, ?_⟩
    have hl : cur.toList.length = cur.size := by simp
    rw [k3, ← ht]
    apply List.ext_getElem?
    intro j
    rw [List.getElem?_take]
    by_cases hj : j < n * size
    · rw [if_pos hj, List.getElem?_drop]
      by_cases hj1 : j < i
      · rw [List.append_assoc, List.getElem?_append_left (by rw [List.length_take]; omega), List.getElem?_take, if_pos (by omega)]
        rw [List.append_assoc, List.getElem?_append_left (by simp only [List.length_take, List.length_drop]; omega), List.getElem?_take, if_pos hj1, List.getElem?_take, if_pos hj, List.getElem?_drop]
      · by_cases hj2 : j < i + vs.length
        · rw [List.getElem?_append_left (by simp only [List.length_append, List.length_take]; omega), List.getElem?_append_right (by rw [List.length_take]; omega)]
          rw [List.getElem?_append_left (by simp only [List.length_append, List.length_take, List.length_drop]; omega), List.getElem?_append_right (by simp only [List.length_take, List.length_drop]; omega)]
          congr 1
          simp only [List.length_take, List.length_drop]
          omega
        · rw [List.getElem?_append_right (by simp only [List.length_append, List.length_take]; omega), List.getElem?_drop]
          rw [List.getElem?_append_right (by simp only [List.length_append, List.length_take, List.length_drop]; omega), List.getElem?_drop, List.getElem?_take, if_pos (by simp only [List.length_append, List.length_take, List.length_drop]; omega), List.getElem?_drop]
          congr 1
          simp only [List.length_append, List.length_take, List.length_drop]
          omega
    · rw [if_neg hj, List.getElem?_eq_none]
      simp only [List.length_append, List.length_take, List.length_drop]
      omega
theorem Sl.put1 (h : Sl w e size (.slice (some ⟨g, o, none⟩) n c) n xs) (i : Nat) (hi : i < n * size) (u : Value) :
    Sl (w.setCell ⟨g, o + i, none⟩ u) e size (.slice (some ⟨g, o, none⟩) n c) n (xs.set i u) := by
  have := h.puts i [u] (by simp; omega)
  rw [List.set_eq_take_append_cons_drop, if_pos (by rw [h.1]; exact hi)]
  simpa [World.setCells] using this
theorem Sl.cellAt (h : Sl w e size (.slice (some ⟨g, o, none⟩) n c) n xs) {j : Nat} {u : Value} (hj : xs[j]? = some u) : w.cell? ⟨g, o + j, none⟩ = some u := by
  have hlt := (List.getElem?_eq_some_iff.1 hj).1
  rw [h.1] at hlt
  have hn : 0 < n := by
    rcases Nat.eq_zero_or_pos n with h0 | h0
    · subst h0; omega
    · exact h0
  obtain ⟨g', o', he, _, hc⟩ := h.cells hn
  injection he with he
  injection he with h1 h2
  subst h1 h2
  exact hc j u hj
theorem Sl.frozenAt (h : Sl w e size (.slice (some ⟨g, o, none⟩) n c) n xs) (j : Nat) : w.frozen? ⟨g, j, none⟩ = false := by
  rcases h.2 with ⟨he, h0⟩ | ⟨g', o', c', cur, he, hg, hnc, hm, hs, ht⟩
  · injection he with ha; cases ha
  · injection he with ha _ hc
    injection ha with ha
    injection ha with ha1 ha2
    subst ha1
    exact frozen_of_row w _ j cur e hg
/-- The built-in clear, of whatever elements. -/
theorem run_clear_sl {P : Program} (t : TypeId) (z : Value) (ht : P.underlying t = some (.slice e)) (hv : ∀ w, (zeroValue e).run P w = .ok z w) (hz : z.cells.size = size) (h1 : ∀ v ∈ z.cells, v.oneCell' = true)
    (h : Sl w e size (.slice (some ⟨g, o, none⟩) n c) n xs) (k : Nat) (hk : k < n) :
    ∃ vs : List Value, vs.length = (n - k) * size ∧ ∀ ty, (Builtin.clear_ #[t] ty #[.slice (some ⟨g, o + k * size, none⟩) (n - k) (c - k)]).run P w = .ok (.tuple #[]) (w.setCells g (o + k * size) vs) := by
  refine ⟨(Builtin.zeroCells z.cells (n - k)).toList, by simp [Builtin.zeroCells, hz], fun ty => ?_⟩
  have hl : (Builtin.zeroCells z.cells (n - k)).toList.length = (n - k) * size := by simp [Builtin.zeroCells, hz]
  have hnk : (n - k) * size + k * size = n * size := by rw [← Nat.add_mul]; congr 1; omega
  have hst := run_storeCells_cells (P := P) g (o + k * size) (Builtin.zeroCells z.cells (n - k)).toList 0 w (fun j hj => by
      obtain ⟨u, hu⟩ : ∃ u, xs[k * size + j]? = some u := ⟨_, List.getElem?_eq_getElem (by rw [h.1]; omega)⟩
      have := h.cellAt hu
      rw [show o + k * size + 0 + j = o + (k * size + j) by omega, this]
      rfl)
    (fun j _ => h.frozenAt _) (fun v hv' => by
      rw [Array.mem_toList_iff] at hv'
      unfold Builtin.zeroCells at hv'
      obtain ⟨i, hi, rfl⟩ := Array.mem_map.1 hv'
      have hi2 : i < (n - k) * z.cells.size := by simpa using hi
      have hp : 0 < z.cells.size := by
        rcases Nat.eq_zero_or_pos z.cells.size with h0 | h0
        · rw [h0] at hi2; omega
        · exact h0
      rw [getElem!_pos z.cells (i % z.cells.size) (Nat.mod_lt _ hp)]
      exact h1 _ (Array.getElem_mem _))
  simp only [Nat.add_zero] at hst
  obtain ⟨m, hm⟩ : ∃ m, n - k = m + 1 := ⟨n - k - 1, by omega⟩
  rw [hm] at hst ⊢
  simp [Builtin.clear_, run_underlying ht, hv, hst]
end
/-- 's[i:]', something being left of the room. -/
theorem slice_from {P : Program} {t e : TypeId} {g off n c size : Nat} (ht : P.underlying t = some (.slice e)) (hz : ∀ w, (sizeOf e).run P w = .ok size w) {i : Nat} (hi : i ≤ n) (hc : i < c) (W : World) :
    (Instr.slice t (.slice (some ⟨g, off, none⟩) n c) (some (.int .i64 (i : Int))) none none).run P W = .ok (.slice (some ⟨g, off + i * size, none⟩) (n - i) (c - i)) W := by
  have h1 : (i : Int) ≤ (n : Int) := by omega
  have h2 : ¬ c = i := by omega
  simp [Instr.slice, run_underlying ht, Instr.sliceBounds, run_sliceBound, hz, h1, h2, addr_add]
end Go.Proofs.YthalpaggcdpcbaaDoor
