/- What the functions that DiffTurned calls compute. -/
import Derived.Test.YtnnnlbbgmdoehaaPDiffTurnedx1
namespace Go.Proofs.Ytnnnlbbgmdoehaa.Pure
open Go.RowKit Go.Proofs.Ytnnnlbbgmdoehaa.PDiffTurned Go.Proofs.YtnnnlbbgmdoehaaW.PrintWords Go.Proofs.YtnnnlbbgmdoehaaW.PrintLast Go.Proofs.Ytnnnlbbgmdoehaa.Df Go.Proofs.Ytnnnlbbgmdoehaa

theorem bytes_eq {a b : ByteArray} : a.toList = b.toList ↔ a = b := by
  rw [ByteArray.toList_eq, ByteArray.toList_eq]
  constructor
  · intro h
    cases a; cases b
    simpa using h
  · rintro rfl; rfl
theorem w64 {i : Int} (h0 : 0 ≤ i) (h1 : i < 9223372036854775807) : wrap64 (i + 1) = i + 1 := by unfold wrap64; omega
theorem rdOf_nat (l : List ByteArray) (i : Nat) (h : i < l.length) : rdOf ByteArray.empty l (i : Int) = l[i] := by
  unfold rdOf
  rw [Int.toNat_natCast, List.getD_eq_getElem?_getD, List.getElem?_eq_getElem h]
  rfl

theorem bind_of {α β : Type} {o : Option α} {a : α} (h : o = some a) (f : α → Option β) : o.bind f = f a := by rw [h]; rfl

/-! ### lists -/
theorem inB_iff {l : List ByteArray} {s : ByteArray} : inB l s = true ↔ s ∈ l := by
  unfold inB
  rw [List.any_eq_true]
  constructor
  · rintro ⟨x, hx, h⟩; rwa [← of_decide_eq_true h]
  · intro h; exact ⟨s, h, by simp⟩
theorem inB_false {l : List ByteArray} {s : ByteArray} : inB l s = false ↔ s ∉ l := by
  rw [← Bool.not_eq_true, inB_iff]
theorem mem_ofV {l l1 : List ByteArray} {b : Bool} {s : ByteArray} : s ∈ ofV l l1 b ↔ s ∈ l ∧ inB l1 s = b := by
  unfold ofV
  rw [List.mem_filter]
  cases inB l1 s <;> cases b <;> simp
theorem length_le_of_subset : ∀ (l m : List ByteArray), l.Nodup → (∀ x ∈ l, x ∈ m) → l.length ≤ m.length
  | [], m, _, _ => Nat.zero_le _
  | a :: t, m, hn, hs => by
    obtain ⟨h1, h2⟩ := List.nodup_cons.1 hn
    have ha := hs a (by simp)
    have ih := length_le_of_subset t (m.filter fun x => !decide (x = a)) h2 (fun x hx => List.mem_filter.2 ⟨hs x (by simp [hx]), by simp; rintro rfl; exact h1 hx⟩)
    have hlt : (m.filter fun x => !decide (x = a)).length < m.length := List.length_filter_lt_length_iff_exists.2 ⟨a, ha, by simp⟩
    rw [List.length_cons]
    omega
theorem ofV_cons (s : ByteArray) (r l1 : List ByteArray) (b : Bool) : ofV (s :: r) l1 b = if inB l1 s = b then s :: ofV r l1 b else ofV r l1 b := by
  unfold ofV
  rw [List.filter_cons]
  cases inB l1 s <;> cases b <;> rfl
theorem ofV_nodup {l l1 : List ByteArray} {b : Bool} (h : l.Nodup) : (ofV l l1 b).Nodup := by unfold ofV; exact List.Pairwise.filter _ h
theorem both_len {a b : List ByteArray} (ha : a.Nodup) (hb : b.Nodup) : (ofV a b true).length = (ofV b a true).length := by
  refine Nat.le_antisymm (length_le_of_subset _ _ (ofV_nodup ha) ?_) (length_le_of_subset _ _ (ofV_nodup hb) ?_) <;>
  · intro x hx
    rw [mem_ofV, inB_iff] at hx ⊢
    exact ⟨hx.2, hx.1⟩
theorem parts_len (l l1 : List ByteArray) : (ofV l l1 false).length + (ofV l l1 true).length = l.length := by
  induction l with
  | nil => rfl
  | cons s r ih =>
    rw [ofV_cons, ofV_cons]
    cases inB l1 s
    · rw [if_pos rfl, if_neg (by decide), List.length_cons, List.length_cons]; omega
    · rw [if_neg (by decide), if_pos rfl, List.length_cons, List.length_cons]; omega
theorem ofV_self_true (l : List ByteArray) : ofV l l true = l := by
  unfold ofV
  rw [List.filter_eq_self]
  intro s hs
  rw [inB_iff.2 hs]; rfl
theorem ofV_self_false (l : List ByteArray) : ofV l l false = [] := by
  unfold ofV
  rw [List.filter_eq_nil_iff]
  intro s hs
  rw [inB_iff.2 hs]; simp
theorem ofV_nil_false (l : List ByteArray) : ofV l [] false = l := by
  unfold ofV
  rw [List.filter_eq_self]
  intro s _
  rfl
theorem ofV_nil_true (l : List ByteArray) : ofV l [] true = [] := by
  unfold ofV
  rw [List.filter_eq_nil_iff]
  intro s _
  simp [inB]

/-! ### what the printed functions tell -/
theorem has_from (l : List ByteArray) (s : ByteArray) (hl : l.length ≤ 1000) : ∀ (d k i : Nat), l.length - i = d → i ≤ l.length → d < k → hostlerref09_Has.l0 k l s (i : Int) = some ((l.drop i).any fun x => decide (x = s))
  | 0, k, i, hd, hi, hk => by
    obtain ⟨k, rfl⟩ : ∃ m, k = m + 1 := ⟨k - 1, by omega⟩
    simp only [hostlerref09_Has.l0]
    rw [if_neg (by omega), List.drop_of_length_le (by omega)]
    rfl
  | d + 1, k, i, hd, hi, hk => by
    obtain ⟨k, rfl⟩ : ∃ m, k = m + 1 := ⟨k - 1, by omega⟩
    have hlt : i < l.length := by omega
    simp only [hostlerref09_Has.l0]
    rw [if_pos (by omega), if_pos (by omega), rdOf_nat l i hlt, List.drop_eq_getElem_cons hlt, List.any_cons, w64 (by omega) (by omega)]
    by_cases e : l[i] = s
    · rw [if_pos (bytes_eq.2 e), e]; simp
    · rw [if_neg (fun h => e (bytes_eq.1 h)), show ((i : Int) + 1) = ((i + 1 : Nat) : Int) by omega, has_from l s hl d k (i + 1) (by omega) (by omega) (by omega), decide_eq_false e]
      rfl
theorem has_is (l : List ByteArray) (s : ByteArray) (k : Nat) (hl : l.length ≤ 1000) (hk : l.length < k) : hostlerref09_Has.f k l s = some (inB l s) := by
  unfold hostlerref09_Has.f inB
  have := has_from l s hl l.length k 0 (by omega) (by omega) hk
  simpa using this
theorem same_from (l m : List ByteArray) (hl : l.length ≤ 1000) (he : l.length = m.length) : ∀ (d k i : Nat), l.length - i = d → i ≤ l.length → d < k → l.drop i = m.drop i → hostlerref09_Same.l0 k l m (i : Int) = some true
  | 0, k, i, hd, hi, hk, _ => by
    obtain ⟨k, rfl⟩ : ∃ m, k = m + 1 := ⟨k - 1, by omega⟩
    simp only [hostlerref09_Same.l0]
    rw [if_neg (by omega)]
  | d + 1, k, i, hd, hi, hk, h => by
    obtain ⟨k, rfl⟩ : ∃ m, k = m + 1 := ⟨k - 1, by omega⟩
    have hlt : i < l.length := by omega
    rw [List.drop_eq_getElem_cons hlt, List.drop_eq_getElem_cons (by omega : i < m.length)] at h
    injection h with h1 h2
    simp only [hostlerref09_Same.l0]
    rw [if_pos (by omega), if_pos (by omega), if_pos (by omega), rdOf_nat l i hlt, rdOf_nat m i (by omega), if_pos (bytes_eq.2 h1), w64 (by omega) (by omega), show ((i : Int) + 1) = ((i + 1 : Nat) : Int) by omega]
    exact same_from l m hl he d k (i + 1) (by omega) (by omega) (by omega) h2
theorem same_is (l : List ByteArray) (k : Nat) (hl : l.length ≤ 1000) (hk : l.length < k) : hostlerref09_Same.f k l l = some true := by
  unfold hostlerref09_Same.f
  rw [if_pos rfl]
  exact same_from l l hl rfl l.length k 0 (by omega) (by omega) hk rfl
theorem lives_is : hostlerlaw09_lives.f = some true := by decide +kernel
theorem check_is {l : List ByteArray} (h : smallB l = true) : diff_Check.f l = some (checkV l) := by unfold diff_Check.f checkF; rw [if_pos h]
theorem of_is {l m : List ByteArray} (h : smallB l = true) (hm : smallB m = true) (b : Bool) : diff_of.f l m b = some (ofV l m b) := by unfold diff_of.f ofF; rw [h, hm]; rfl
theorem may_yes {l m : List ByteArray} (h : smallB l = true) (hm : smallB m = true) (c : checkV l = 0) (cm : checkV m = 0) : diff_may.f l m = some true := by
  unfold diff_may.f
  rw [check_is h, check_is hm, c, cm]; rfl
theorem diff_yes {l m : List ByteArray} (h : smallB l = true) (hm : smallB m = true) (c : checkV l = 0) (cm : checkV m = 0) : diff_Diff.f l m = some (ofV m l false, ofV l m false, ofV l m true) := by
  unfold diff_Diff.f
  rw [may_yes h hm c cm, of_is hm h, of_is h hm, of_is h hm]; rfl
theorem small_of {l : List ByteArray} (h1 : l.length ≤ 1000) (h2 : ∀ s ∈ l, s.size ≤ 1000) : smallB l = true := by
  unfold smallB
  simp only [Bool.and_eq_true, decide_eq_true_eq, List.all_eq_true]
  exact ⟨h1, h2⟩
theorem small_mem {l : List ByteArray} (h : smallB l = true) {s : ByteArray} (hs : s ∈ l) : s.size ≤ 1000 := by
  unfold smallB at h
  simp only [Bool.and_eq_true, decide_eq_true_eq, List.all_eq_true] at h
  exact h.2 s hs
theorem ofV_len (l m : List ByteArray) (b : Bool) : (ofV l m b).length ≤ l.length := List.length_filter_le _ _
theorem join_yes {l m : List ByteArray} (h : smallB l = true) (hm : smallB m = true) (c : checkV l = 0) (cm : checkV m = 0) : diff_Join.f l m = some (ofV l m true ++ ofV m l false) := by
  unfold diff_Join.f
  rw [may_yes h hm c cm, diff_yes h hm c cm]
  have a1 := ofV_len l m true
  have a2 := ofV_len m l false
  have a3 := small_len h
  have a4 := small_len hm
  simp only [Option.bind_some, if_true]
  rw [if_pos (by omega)]

/-! ### lists that may be -/
def six : List ByteArray := [⟨#[104, 48]⟩, ⟨#[104, 49]⟩, ⟨#[104, 50]⟩, ⟨#[104, 51]⟩, ⟨#[104, 52]⟩, ⟨#[104, 53]⟩]
/-- A list of some of the six names, none twice. -/
structure OK6 (l : List ByteArray) : Prop where
  nodup : l.Nodup
  mem : ∀ s ∈ l, s ∈ six
theorem OK6.len {l : List ByteArray} (h : OK6 l) : l.length ≤ 6 := length_le_of_subset l six h.nodup h.mem
theorem six_good : ∀ s ∈ six, nameB s = true ∧ s.size ≤ 1000 := by decide +kernel
theorem OK6.small {l : List ByteArray} (h : OK6 l) : smallB l = true := small_of (by have := h.len; omega) (fun s hs => (six_good s (h.mem s hs)).2)
theorem OK6.check {l : List ByteArray} (h : OK6 l) : checkV l = 0 := by
  unfold checkV
  have hl := h.len
  rw [if_neg (by omega), if_pos h.nodup]
  have : l.any badB = false := by
    rw [List.any_eq_false]
    intro s hs
    unfold badB
    rw [(six_good s (h.mem s hs)).1]; simp
  rw [this]; rfl
theorem OK6.nil : OK6 [] := ⟨List.nodup_nil, fun _ h => by cases h⟩
theorem OK6.ofV {l m : List ByteArray} {b : Bool} (h : OK6 l) : OK6 (Df.ofV l m b) := ⟨ofV_nodup h.nodup, fun s hs => h.mem s (mem_ofV.1 hs).1⟩
theorem OK6.snoc {l : List ByteArray} {s : ByteArray} (h : OK6 l) (hs : s ∈ six) (hn : s ∉ l) : OK6 (l ++ [s]) := by
  refine ⟨?_, fun x hx => ?_⟩
  · refine List.pairwise_append.2 ⟨h.nodup, List.pairwise_singleton _ _, fun a ha b hb => ?_⟩
    rw [List.mem_singleton.1 hb]
    rintro rfl
    exact hn ha
  · rcases List.mem_append.1 hx with hx | hx
    · exact h.mem x hx
    · rw [List.mem_singleton.1 hx]; exact hs
theorem u64_pos (a : Int) : 0 ≤ IntKind.u64.wrap a := by
  unfold IntKind.wrap
  simp [IntKind.bits, IntKind.signed]
  omega
theorem idx6 (a : Int) : ∃ j : Nat, j < 6 ∧ wrap64 (Int.tmod (IntKind.u64.wrap a) 6) = (j : Int) := by
  have h := u64_pos a
  generalize IntKind.u64.wrap a = u at h
  rw [Int.tmod_eq_emod_of_nonneg h]
  refine ⟨(u % 6).toNat, by omega, ?_⟩
  unfold wrap64
  omega
theorem good_from (l : List Int) (hl : l.length * 8 ≤ 140737488351232) : ∀ (d k i : Nat) (o : List ByteArray), l.length - i = d → i ≤ l.length → d + 10 < k → OK6 o → ∃ g, hostlerref09_Good.l0 k l o six (i : Int) = some g ∧ OK6 g
  | 0, k, i, o, hd, hi, hk, ho => by
    obtain ⟨k, rfl⟩ : ∃ m, k = m + 1 := ⟨k - 1, by omega⟩
    exact ⟨o, by simp only [hostlerref09_Good.l0]; rw [if_neg (by omega)], ho⟩
  | d + 1, k, i, o, hd, hi, hk, ho => by
    obtain ⟨k, rfl⟩ : ∃ m, k = m + 1 := ⟨k - 1, by omega⟩
    obtain ⟨j, hj, e⟩ := idx6 (rd l (i : Int))
    have hlen := ho.len
    have h6 : six.length = 6 := rfl
    have hm : six[j]'(by omega) ∈ six := List.getElem_mem _
    simp only [hostlerref09_Good.l0]
    rw [if_pos (by omega), if_pos (by omega), e, if_pos (by omega), if_pos (by omega), rdOf_nat six j (by omega), has_is o _ k (by omega) (by omega), w64 (by omega) (by omega), show ((i : Int) + 1) = ((i + 1 : Nat) : Int) by omega]
    simp only [Option.bind_some]
    cases hb : inB o (six[j]'(by omega)) with
    | true =>
      rw [if_pos rfl]
      exact good_from l hl d k (i + 1) o (by omega) (by omega) (by omega) ho
    | false =>
      rw [if_neg (by decide), if_pos (by omega)]
      exact good_from l hl d k (i + 1) _ (by omega) (by omega) (by omega) (ho.snoc hm (inB_false.1 hb))
theorem good_is (l : List Int) (hl : l.length * 8 ≤ 140737488351232) : ∃ g, OK6 g ∧ ∀ k, l.length + 10 < k → hostlerref09_Good.f k l = some g := by
  obtain ⟨g, hg, ho⟩ := good_from l hl l.length (l.length + 11) 0 [] (by omega) (by omega) (by omega) OK6.nil
  refine ⟨g, ho, fun k hk => ?_⟩
  obtain ⟨g', hg', _⟩ := good_from l hl l.length k 0 [] (by omega) (by omega) (by omega) OK6.nil
  have m : ∀ j, LeO (hostlerref09_Good.f (l.length + 11) l) (hostlerref09_Good.f (l.length + 11 + j) l) := by
    intro j
    induction j with
    | zero => exact fun r h => h
    | succ j ih => exact fun r h => hostlerref09_Good.mono l _ r (ih r h)
  have := m (k - (l.length + 11)) g (by unfold hostlerref09_Good.f; exact hg)
  rwa [show l.length + 11 + (k - (l.length + 11)) = k by omega] at this
end Go.Proofs.Ytnnnlbbgmdoehaa.Pure
