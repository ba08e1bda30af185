/- A text cut at every place where one byte stands: the pieces, plainly. -/
import Derived.Lib.SplitLaws
import Derived.Lib.Split
import Derived.Lib.Join
import Derived.Lib.IndexLaws
import Derived.Lib.IndexBytes
namespace Go.Proofs.YthalpaggcdpcbaaDoor.Sp
open Go.Lib

/-- The pieces of s between the bytes c. -/
def Pieces (c : UInt8) (s : List UInt8) (L : List (List UInt8)) : Prop := L ≠ [] ∧ (∀ x ∈ L, c ∉ x) ∧ join L [c] = s

theorem join_two (x y : List UInt8) (r : List (List UInt8)) (sep : List UInt8) : join (x :: y :: r) sep = x ++ (sep ++ join (y :: r) sep) := by
  simp [join, List.intercalate]
theorem join_snoc (sep x : List UInt8) : ∀ L : List (List UInt8), L ≠ [] → join (L ++ [x]) sep = join L sep ++ (sep ++ x)
  | [], h => absurd rfl h
  | [y], _ => by rw [List.singleton_append, join_two, join_one, join_one]
  | y :: z :: r, _ => by
    have ih := join_snoc sep x (z :: r) (by simp)
    rw [List.cons_append] at ih
    rw [List.cons_append, List.cons_append, join_two, ih, join_two]
    simp
theorem join_grow (sep w b : List UInt8) (L : List (List UInt8)) : join (L ++ [w ++ b]) sep = join (L ++ [w]) sep ++ b := by
  cases L with
  | nil => rw [List.nil_append, List.nil_append, join_one, join_one]
  | cons y r => rw [join_snoc _ _ _ (by simp), join_snoc _ _ _ (by simp)]; simp
theorem cut_unique {c : UInt8} : ∀ {x y a b : List UInt8}, c ∉ x → c ∉ y → x ++ c :: a = y ++ c :: b → x = y ∧ a = b
  | [], [], _, _, _, _, h => by simpa using h
  | [], z :: y, a, b, _, hy, h => by
    simp only [List.nil_append, List.cons_append, List.cons.injEq] at h
    exact absurd (by rw [h.1]; simp) hy
  | z :: x, [], a, b, hx, _, h => by
    simp only [List.nil_append, List.cons_append, List.cons.injEq] at h
    exact absurd (by rw [h.1]; simp) hx
  | z :: x, z' :: y, a, b, hx, hy, h => by
    simp only [List.cons_append, List.cons.injEq] at h
    obtain ⟨h1, h2⟩ := cut_unique (c := c) (x := x) (y := y) (fun e => hx (by simp [e])) (fun e => hy (by simp [e])) h.2
    exact ⟨by rw [h.1, h1], h2⟩
theorem unique {c : UInt8} : ∀ {L M : List (List UInt8)} {s : List UInt8}, Pieces c s L → Pieces c s M → L = M
  | [], _, _, h, _ => absurd rfl h.1
  | _ :: _, [], _, _, h => absurd rfl h.1
  | [x], [y], s, h, h' => by
    have e1 := h.2.2; have e2 := h'.2.2
    rw [join_one] at e1 e2
    rw [e1, e2]
  | [x], y :: z :: r, s, h, h' => by
    have e1 := h.2.2; have e2 := h'.2.2
    rw [join_one] at e1
    rw [join_two] at e2
    exact absurd (by rw [e1, ← e2]; simp) (h.2.1 x (by simp))
  | x :: z :: r, [y], s, h, h' => by
    have e1 := h.2.2; have e2 := h'.2.2
    rw [join_one] at e2
    rw [join_two] at e1
    exact absurd (by rw [e2, ← e1]; simp) (h'.2.1 y (by simp))
  | x :: z :: r, y :: z' :: r', s, h, h' => by
    have e1 := h.2.2; have e2 := h'.2.2
    rw [join_two] at e1 e2
    obtain ⟨h1, h2⟩ := cut_unique (c := c) (h.2.1 x (by simp)) (h'.2.1 y (by simp)) (by
      have := e1.trans e2.symm
      simpa using this)
    have := unique (c := c) (L := z :: r) (M := z' :: r') (s := join (z' :: r') [c]) ⟨by simp, fun w hw => h.2.1 w (by simp [hw]), h2⟩ ⟨by simp, fun w hw => h'.2.1 w (by simp [hw]), rfl⟩
    rw [h1, this]
theorem pieces_start (c : UInt8) : Pieces c [] [[]] := ⟨by simp, by simp, join_one _ _⟩
theorem pieces_cut {c : UInt8} {s : List UInt8} {L : List (List UInt8)} (h : Pieces c s L) : Pieces c (s ++ [c]) (L ++ [[]]) := by
  refine ⟨by simp, fun x hx => ?_, ?_⟩
  · rcases List.mem_append.1 hx with hx | hx
    · exact h.2.1 x hx
    · rw [List.mem_singleton.1 hx]; simp
  · rw [join_snoc _ _ _ h.1, h.2.2]; simp
theorem pieces_more {c b : UInt8} {s w : List UInt8} {L : List (List UInt8)} (hb : b ≠ c) (h : Pieces c s (L ++ [w])) : Pieces c (s ++ [b]) (L ++ [w ++ [b]]) := by
  refine ⟨by simp, fun x hx => ?_, ?_⟩
  · rcases List.mem_append.1 hx with hx | hx
    · exact h.2.1 x (by simp [hx])
    · rw [List.mem_singleton.1 hx]
      have := h.2.1 w (by simp)
      simp only [List.mem_append, List.mem_singleton, not_or]
      exact ⟨this, fun e => hb e.symm⟩
  · rw [join_grow, h.2.2]

/-- One byte as a text. -/
def one (c : UInt8) : ByteArray := ⟨#[c]⟩
theorem one_data (c : UInt8) : (one c).data.toList = [c] := rfl
theorem index_one_is (s : ByteArray) (c : UInt8) : indexB s (one c) = indexByte s.data.toList c := by
  show index s.data.toList [c] = _
  exact index_one _ _
theorem split_pieces (c : UInt8) : ∀ (k : Nat) (s : ByteArray), countB s (one c) = k → Pieces c s.data.toList ((splitB (one c) 0 k s).map (·.data.toList))
  | k, s, hk => by
    rcases indexB_cases s (one c) with hm | ⟨i, hi, hle⟩
    · rw [splitB_miss _ _ _ _ hm]
      refine ⟨by simp, fun x hx => ?_, by simp [join_one]⟩
      simp only [List.map_cons, List.map_nil, List.mem_singleton] at hx
      subst hx
      intro hmem
      rw [index_one_is] at hm
      obtain ⟨j, hj, e⟩ := List.getElem_of_mem hmem
      exact indexByte_none hm j (by rw [List.getElem?_eq_getElem hj, e])
    · have hc := countB_hit s (one c) i (Nat.le_refl _) hi
      obtain ⟨k', rfl⟩ : ∃ k', k = k' + 1 := ⟨k - 1, by omega⟩
      have hlt : s.size - (i + 1) < s.size := by have : (one c).size = 1 := rfl; omega
      have hsz : (s.extract (i + 1) s.size).size = s.size - (i + 1) := by rw [ByteArray.size_extract]; omega
      have ih := split_pieces c k' (s.extract (i + (one c).size) s.size) (by omega)
      rw [splitB_hit _ _ _ _ _ hi]
      rw [index_one_is] at hi
      obtain ⟨h1, h2⟩ := indexByte_some hi
      obtain ⟨hl, he⟩ := List.getElem?_eq_some_iff.1 h1
      have ea : (s.extract 0 (i + 0)).data.toList = s.data.toList.take i := by rw [extract_data]; simp
      have eb : (s.extract (i + (one c).size) s.size).data.toList = s.data.toList.drop (i + 1) := by
        rw [extract_data, show (one c).size = 1 from rfl]
        rw [List.take_of_length_le (by rw [List.length_drop, Array.length_toList]; exact Nat.le_refl _)]
      obtain ⟨i1, i2, i3⟩ := ih
      rw [eb] at i3
      obtain ⟨y, r, hy⟩ : ∃ y r, (splitB (one c) 0 k' (s.extract (i + (one c).size) s.size)).map (·.data.toList) = y :: r := by
        cases hq : (splitB (one c) 0 k' (s.extract (i + (one c).size) s.size)).map (·.data.toList) with
        | nil => exact absurd hq i1
        | cons y r => exact ⟨y, r, rfl⟩
      rw [List.map_cons, hy, ea]
      rw [hy] at i2 i3
      refine ⟨by simp, fun x hx => ?_, ?_⟩
      · rcases List.mem_cons.1 hx with rfl | hx
        · intro hm
          obtain ⟨j, hj, e⟩ := List.mem_take_iff_getElem.1 hm
          exact h2 j (by omega) (by rw [List.getElem?_eq_getElem (by omega), e])
        · exact i2 x hx
      · rw [join_two, i3, ← he]
        rw [List.singleton_append, ← List.drop_eq_getElem_cons hl, List.take_append_drop]
termination_by _ s => s.size
decreasing_by simp only [show (one c).size = 1 from rfl]; omega
end Go.Proofs.YthalpaggcdpcbaaDoor.Sp
