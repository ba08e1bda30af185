/- What the functions that DiffDiffs calls compute. -/
import Derived.Test.YtnnnlbbgmdoehaaPDiffDiffsx3
namespace Go.Proofs.Ytnnnlbbgmdoehaa.Pure
open Go.RowKit Go.Proofs.Ytnnnlbbgmdoehaa.PDiffDiffs Go.Proofs.YtnnnlbbgmdoehaaW.PrintWords Go.Proofs.YtnnnlbbgmdoehaaW.PrintLast Go.Proofs.Ytnnnlbbgmdoehaa.Df Go.Proofs.Ytnnnlbbgmdoehaa




theorem bind_of {α β : Type} {o : Option α} {a : α} (h : o = some a) (f : α → Option β) : o.bind f = f a := by rw [h]; rfl

/-! ### lists -/
theorem inB_iff {l : List ByteArray} {s : ByteArray} : inB l s = true ↔ s ∈ l := by
  unfold inB
  rw [List.any_eq_true]
  constructor
  · rintro ⟨x, hx, h⟩; rwa [← of_decide_eq_true h]
  · intro h; exact ⟨s, h, by simp⟩
theorem inB_false {l : List ByteArray} {s : ByteArray} : inB l s = false ↔ s ∉ l := by
  rw [← Bool.not_eq_true, inB_iff]
theorem mem_ofV {l l1 : List ByteArray} {b : Bool} {s : ByteArray} : s ∈ ofV l l1 b ↔ s ∈ l ∧ inB l1 s = b := by
  unfold ofV
  rw [List.mem_filter]
  cases inB l1 s <;> cases b <;> simp
theorem length_le_of_subset : ∀ (l m : List ByteArray), l.Nodup → (∀ x ∈ l, x ∈ m) → l.length ≤ m.length
  | [], m, _, _ => Nat.zero_le _
  | a :: t, m, hn, hs => by
    obtain ⟨h1, h2⟩ := List.nodup_cons.1 hn
    have ha := hs a (by simp)
    have ih := length_le_of_subset t (m.filter fun x => !decide (x = a)) h2 (fun x hx => List.mem_filter.2 ⟨hs x (by simp [hx]), by simp; rintro rfl; exact h1 hx⟩)
    have hlt : (m.filter fun x => !decide (x = a)).length < m.length := List.length_filter_lt_length_iff_exists.2 ⟨a, ha, by simp⟩
    rw [List.length_cons]
    omega
theorem ofV_cons (s : ByteArray) (r l1 : List ByteArray) (b : Bool) : ofV (s :: r) l1 b = if inB l1 s = b then s :: ofV r l1 b else ofV r l1 b := by
  unfold ofV
  rw [List.filter_cons]
  cases inB l1 s <;> cases b <;> rfl
theorem ofV_nodup {l l1 : List ByteArray} {b : Bool} (h : l.Nodup) : (ofV l l1 b).Nodup := by unfold ofV; exact List.Pairwise.filter _ h
theorem both_len {a b : List ByteArray} (ha : a.Nodup) (hb : b.Nodup) : (ofV a b true).length = (ofV b a true).length := by
  refine Nat.le_antisymm (length_le_of_subset _ _ (ofV_nodup ha) ?_) (length_le_of_subset _ _ (ofV_nodup hb) ?_) <;>
  · intro x hx
    rw [mem_ofV, inB_iff] at hx ⊢
    exact ⟨hx.2, hx.1⟩
theorem parts_len (l l1 : List ByteArray) : (ofV l l1 false).length + (ofV l l1 true).length = l.length := by
  induction l with
  | nil => rfl
  | cons s r ih =>
    rw [ofV_cons, ofV_cons]
    cases inB l1 s
    · rw [if_pos rfl, if_neg (by decide), List.length_cons, List.length_cons]; omega
    · rw [if_neg (by decide), if_pos rfl, List.length_cons, List.length_cons]; omega
theorem ofV_self_true (l : List ByteArray) : ofV l l true = l := by
  unfold ofV
  rw [List.filter_eq_self]
  intro s hs
  rw [inB_iff.2 hs]; rfl
theorem ofV_self_false (l : List ByteArray) : ofV l l false = [] := by
  unfold ofV
  rw [List.filter_eq_nil_iff]
  intro s hs
  rw [inB_iff.2 hs]; simp
theorem ofV_nil_false (l : List ByteArray) : ofV l [] false = l := by
  unfold ofV
  rw [List.filter_eq_self]
  intro s _
  rfl
theorem ofV_nil_true (l : List ByteArray) : ofV l [] true = [] := by
  unfold ofV
  rw [List.filter_eq_nil_iff]
  intro s _
  simp [inB]

/-! ### what the printed functions tell -/


theorem same_from (l m : List ByteArray) (hl : l.length ≤ 1000) (he : l.length = m.length) : ∀ (d k i : Nat), l.length - i = d → i ≤ l.length → d < k → l.drop i = m.drop i → hostlerref09_Same.l0 k l m (i : Int) = some true
  | 0, k, i, hd, hi, hk, _ => by
    obtain ⟨k, rfl⟩ : ∃ m, k = m + 1 := ⟨k - 1, by omega⟩
    simp only [hostlerref09_Same.l0]
    rw [if_neg (by omega)]
  | d + 1, k, i, hd, hi, hk, h => by
    obtain ⟨k, rfl⟩ : ∃ m, k = m + 1 := ⟨k - 1, by omega⟩
    have hlt : i < l.length := by omega
    rw [List.drop_eq_getElem_cons hlt, List.drop_eq_getElem_cons (by omega : i < m.length)] at h
    injection h with h1 h2
    simp only [hostlerref09_Same.l0]
    rw [if_pos (by omega), if_pos (by omega), if_pos (by omega), rdOf_nat l i hlt, rdOf_nat m i (by omega), if_pos (bytes_eq.2 h1), w64 (by omega) (by omega), show ((i : Int) + 1) = ((i + 1 : Nat) : Int) by omega]
    exact same_from l m hl he d k (i + 1) (by omega) (by omega) (by omega) h2
theorem same_is (l : List ByteArray) (k : Nat) (hl : l.length ≤ 1000) (hk : l.length < k) : hostlerref09_Same.f k l l = some true := by
  unfold hostlerref09_Same.f
  rw [if_pos rfl]
  exact same_from l l hl rfl l.length k 0 (by omega) (by omega) hk rfl
theorem lives_is : hostlerlaw09_lives.f = some true := by decide +kernel
theorem check_is {l : List ByteArray} (h : smallB l = true) : diff_Check.f l = some (checkV l) := by unfold diff_Check.f checkF; rw [if_pos h]
theorem of_is {l m : List ByteArray} (h : smallB l = true) (hm : smallB m = true) (b : Bool) : diff_of.f l m b = some (ofV l m b) := by unfold diff_of.f ofF; rw [h, hm]; rfl
theorem may_yes {l m : List ByteArray} (h : smallB l = true) (hm : smallB m = true) (c : checkV l = 0) (cm : checkV m = 0) : diff_may.f l m = some true := by
  unfold diff_may.f
  rw [check_is h, check_is hm, c, cm]; rfl
theorem diff_yes {l m : List ByteArray} (h : smallB l = true) (hm : smallB m = true) (c : checkV l = 0) (cm : checkV m = 0) : diff_Diff.f l m = some (ofV m l false, ofV l m false, ofV l m true) := by
  unfold diff_Diff.f
  rw [may_yes h hm c cm, of_is hm h, of_is h hm, of_is h hm]; rfl
theorem small_of {l : List ByteArray} (h1 : l.length ≤ 1000) (h2 : ∀ s ∈ l, s.size ≤ 1000) : smallB l = true := by
  unfold smallB
  simp only [Bool.and_eq_true, decide_eq_true_eq, List.all_eq_true]
  exact ⟨h1, h2⟩
theorem small_mem {l : List ByteArray} (h : smallB l = true) {s : ByteArray} (hs : s ∈ l) : s.size ≤ 1000 := by
  unfold smallB at h
  simp only [Bool.and_eq_true, decide_eq_true_eq, List.all_eq_true] at h
  exact h.2 s hs
theorem ofV_len (l m : List ByteArray) (b : Bool) : (ofV l m b).length ≤ l.length := List.length_filter_le _ _
theorem join_yes {l m : List ByteArray} (h : smallB l = true) (hm : smallB m = true) (c : checkV l = 0) (cm : checkV m = 0) : diff_Join.f l m = some (ofV l m true ++ ofV m l false) := by
  unfold diff_Join.f
  rw [may_yes h hm c cm, diff_yes h hm c cm]
  have a1 := ofV_len l m true
  have a2 := ofV_len m l false
  have a3 := small_len h
  have a4 := small_len hm
  simp only [Option.bind_some, if_true]
  rw [if_pos (by omega)]

/-! ### DiffDiffs -/
def cut20 (s : ByteArray) : ByteArray := s.extract 0 (min s.size 20)
def fewV (l : List ByteArray) : List ByteArray := (l.take 20).map cut20
theorem few_small (l : List ByteArray) : smallB (fewV l) = true ∧ (fewV l).length ≤ 20 := by
  have h1 : (fewV l).length ≤ 20 := by unfold fewV; rw [List.length_map, List.length_take]; omega
  refine ⟨small_of (by omega) (fun s hs => ?_), h1⟩
  unfold fewV at hs
  obtain ⟨t, _, rfl⟩ := List.mem_map.1 hs
  unfold cut20
  rw [ByteArray.size_extract]
  omega
theorem cut20_is (s : ByteArray) : 0 ≤ mn (s.size : Int) 20 ∧ mn (s.size : Int) 20 ≤ s.size ∧ s.extract 0 (mn (s.size : Int) 20).toNat = cut20 s := by
  have e : (mn (s.size : Int) 20).toNat = min s.size 20 := by unfold mn; split <;> omega
  refine ⟨by unfold mn; split <;> omega, by unfold mn; split <;> omega, ?_⟩
  rw [e]; rfl
theorem few_from (l : List ByteArray) : ∀ (d k i : Nat) (o : List ByteArray), min l.length 20 - i = d → i ≤ min l.length 20 → o.length = i → d < k → hostlerlaw09_few.l0 k l o (i : Int) = some (o ++ ((l.take 20).drop i).map cut20)
  | 0, k, i, o, hd, hi, ho, hk => by
    obtain ⟨k, rfl⟩ : ∃ m, k = m + 1 := ⟨k - 1, by omega⟩
    simp only [hostlerlaw09_few.l0]
    rw [List.drop_of_length_le (by rw [List.length_take]; omega), List.map_nil, List.append_nil]
    by_cases h : (i : Int) < (l.length : Int)
    · rw [if_pos h, if_neg (by omega)]
    · rw [if_neg h]
  | d + 1, k, i, o, hd, hi, ho, hk => by
    obtain ⟨k, rfl⟩ : ∃ m, k = m + 1 := ⟨k - 1, by omega⟩
    have hlt : i < l.length := by omega
    obtain ⟨c0, c1, c2⟩ := cut20_is l[i]
    have hl2 : i < (l.take 20).length := by rw [List.length_take]; omega
    simp only [hostlerlaw09_few.l0]
    rw [if_pos (by omega), if_pos (by omega), if_pos (by omega), rdOf_nat l i hlt, if_pos c0, if_pos c1, if_pos (by omega), c2, w64 (by omega) (by omega), show ((i : Int) + 1) = ((i + 1 : Nat) : Int) by omega,
      few_from l d k (i + 1) _ (by omega) (by omega) (by rw [List.length_append, ho]; rfl) (by omega), List.drop_eq_getElem_cons hl2, List.map_cons, List.getElem_take, List.append_assoc]
    rfl
theorem few_is (l : List ByteArray) (k : Nat) (hk : 20 < k) : hostlerlaw09_few.f k l = some (fewV l) := by
  have := few_from l (min l.length 20) k 0 [] (by omega) (by omega) rfl (by omega)
  rw [List.drop_zero, List.nil_append] at this
  exact this
theorem refof_from (l m : List ByteArray) (b : Bool) (hl : l.length ≤ 1000) (hm : m.length ≤ 1000) : ∀ (d k i : Nat) (o : List ByteArray), l.length - i = d → i ≤ l.length → o.length ≤ i → d + 1001 < k → hostlerref09_of.l0 k l m b o (i : Int) = some (o ++ ofV (l.drop i) m b)
  | 0, k, i, o, hd, hi, ho, hk => by
    obtain ⟨k, rfl⟩ : ∃ m, k = m + 1 := ⟨k - 1, by omega⟩
    simp only [hostlerref09_of.l0]
    rw [if_neg (by omega), List.drop_of_length_le (by omega)]
    simp [ofV]
  | d + 1, k, i, o, hd, hi, ho, hk => by
    obtain ⟨k, rfl⟩ : ∃ m, k = m + 1 := ⟨k - 1, by omega⟩
    have hlt : i < l.length := by omega
    simp only [hostlerref09_of.l0]
    rw [if_pos (by omega), if_pos (by omega), rdOf_nat l i hlt, bind_of (has_is m l[i] k hm (by omega)), w64 (by omega) (by omega), show ((i : Int) + 1) = ((i + 1 : Nat) : Int) by omega, List.drop_eq_getElem_cons hlt, ofV_cons]
    by_cases h : inB m l[i] = b
    · rw [if_pos (by rw [h]; exact beq_self_eq_true _), if_pos (by omega), if_pos h, refof_from l m b hl hm d k (i + 1) _ (by omega) (by omega) (by rw [List.length_append]; simp only [List.length_singleton]; omega) (by omega), List.append_assoc]
      rfl
    · rw [if_neg (by intro e; exact h (eq_of_beq e)), if_neg h, refof_from l m b hl hm d k (i + 1) _ (by omega) (by omega) (by omega) (by omega)]
theorem refof_is (l m : List ByteArray) (b : Bool) (k : Nat) (hl : l.length ≤ 1000) (hm : m.length ≤ 1000) (hk : 2100 < k) : hostlerref09_of.f k l m b = some (ofV l m b) := by
  have := refof_from l m b hl hm l.length k 0 [] (by omega) (by omega) (by simp) (by omega)
  rw [List.drop_zero, List.nil_append] at this
  exact this
def mayB (l m : List ByteArray) : Bool := checkV l == 0 && checkV m == 0
def diffV (l m : List ByteArray) : List ByteArray × List ByteArray × List ByteArray := if mayB l m then (ofV m l false, ofV l m false, ofV l m true) else ([], [], [])
def joinV (l m : List ByteArray) : List ByteArray := if mayB l m then ofV l m true ++ ofV m l false else l
theorem may_is {l m : List ByteArray} (h : smallB l = true) (hm : smallB m = true) : diff_may.f l m = some (mayB l m) := by
  unfold diff_may.f mayB
  rw [bind_of (check_is h), bind_of (check_is hm)]
  by_cases c : checkV l = 0
  · rw [if_pos c, c]; rfl
  · rw [if_neg c, beq_eq_false_iff_ne.2 c]; rfl
theorem diff_is {l m : List ByteArray} (h : smallB l = true) (hm : smallB m = true) : diff_Diff.f l m = some (diffV l m) := by
  unfold diff_Diff.f diffV
  rw [bind_of (may_is h hm), bind_of (of_is hm h _), bind_of (of_is h hm _), bind_of (of_is h hm _)]
  cases mayB l m <;> rfl
theorem refdiff_is {l m : List ByteArray} (k : Nat) (hk : 3000 < k) (h : smallB l = true) (hm : smallB m = true) : hostlerref09_Diff.f k l m = some (diffV l m) := by
  obtain ⟨k, rfl⟩ : ∃ m, k = m + 1 := ⟨k - 1, by omega⟩
  have c1 : hostlerref09_Check.f l = some (checkV l) := by unfold hostlerref09_Check.f checkF; rw [if_pos h]
  have c2 : hostlerref09_Check.f m = some (checkV m) := by unfold hostlerref09_Check.f checkF; rw [if_pos hm]
  have hl := small_len h
  have hl2 := small_len hm
  unfold hostlerref09_Diff.f diffV mayB
  rw [bind_of c1, bind_of c2]
  simp only [hostlerref09_Diff.j0]
  rw [bind_of (refof_is m l _ k hl2 hl (by omega)), bind_of (refof_is l m _ k hl hl2 (by omega)), bind_of (refof_is l m _ k hl hl2 (by omega))]
  by_cases a : checkV l = 0
  · by_cases b : checkV m = 0
    · rw [if_pos a, a, b]; rfl
    · rw [if_pos a, beq_eq_false_iff_ne.2 b, bne_iff_ne.2 b, Bool.and_false]; rfl
  · rw [if_neg a, beq_eq_false_iff_ne.2 a]; rfl
theorem clone_is {l : List ByteArray} (h : smallB l = true) : slices_Clone_string_string.f l = some l := by unfold slices_Clone_string_string.f cloneF; rw [if_pos h]
theorem join_is {l m : List ByteArray} (h : smallB l = true) (hm : smallB m = true) : diff_Join.f l m = some (joinV l m) := by
  have a1 := ofV_len l m true
  have a2 := ofV_len m l false
  have a3 := small_len h
  have a4 := small_len hm
  unfold diff_Join.f
  rw [bind_of (may_is h hm), bind_of (diff_is h hm), bind_of (clone_is h)]
  unfold diffV joinV
  cases mayB l m
  · rfl
  · rw [if_pos rfl, if_pos rfl]
    dsimp only
    rw [if_pos (by omega)]
    rfl
theorem refjoin_is {l m : List ByteArray} (k : Nat) (hk : 3000 < k) (h : smallB l = true) (hm : smallB m = true) : hostlerref09_Join.f k l m = some (joinV l m) := by
  obtain ⟨k, rfl⟩ : ∃ m, k = m + 1 := ⟨k - 1, by omega⟩
  have c1 : hostlerref09_Check.f l = some (checkV l) := by unfold hostlerref09_Check.f checkF; rw [if_pos h]
  have c2 : hostlerref09_Check.f m = some (checkV m) := by unfold hostlerref09_Check.f checkF; rw [if_pos hm]
  have hl := small_len h
  have hl2 := small_len hm
  have a1 := ofV_len l m true
  have a2 := ofV_len m l false
  unfold hostlerref09_Join.f joinV mayB
  rw [bind_of c1, bind_of c2]
  simp only [hostlerref09_Join.j0]
  have q1 : ([] : List ByteArray).length + (ofV l m true).length < 8796093022208 := by rw [List.length_nil]; omega
  have q2 : (ofV l m true).length + (ofV m l false).length < 8796093022208 := by omega
  rw [bind_of (refof_is l m _ k hl hl2 (by omega)), if_pos q1, bind_of rfl, List.nil_append, bind_of (refof_is m l _ k hl2 hl (by omega)), if_pos q2]
  by_cases a : checkV l = 0
  · by_cases b : checkV m = 0
    · rw [if_pos a, a, b]; rfl
    · rw [if_pos a, beq_eq_false_iff_ne.2 b, bne_iff_ne.2 b, Bool.and_false]; rfl
  · rw [if_neg a, beq_eq_false_iff_ne.2 a]; rfl
theorem joinV_len {l m : List ByteArray} (hl : l.length ≤ 20) (hm : m.length ≤ 20) : (joinV l m).length ≤ 40 := by
  unfold joinV
  have a1 := ofV_len l m true
  have a2 := ofV_len m l false
  split
  · rw [List.length_append]; omega
  · omega
theorem diffV_len {l m : List ByteArray} (hl : l.length ≤ 20) (hm : m.length ≤ 20) : (diffV l m).1.length ≤ 20 ∧ (diffV l m).2.1.length ≤ 20 ∧ (diffV l m).2.2.length ≤ 20 := by
  have a1 := ofV_len l m true
  have a2 := ofV_len m l false
  have a3 := ofV_len l m false
  unfold diffV
  split
  · exact ⟨by dsimp only; omega, by dsimp only; omega, by dsimp only; omega⟩
  · exact ⟨by simp, by simp, by simp⟩
end Go.Proofs.Ytnnnlbbgmdoehaa.Pure
