/- What the functions that DiffReads and DiffBack call compute. -/
import Derived.Test.YtnnnlbbgmdoehaaDoorPDiffReadsx3
import Derived.Test.YtnnnlbbgmdoehaaDoorRd
namespace Go.Proofs.YtnnnlbbgmdoehaaDoor.Pure
open Go.Proofs.YtnnnlbbgmdoehaaDoor.Rd Go.RowKit Go.Proofs.YtnnnlbbgmdoehaaDoor.PDiffReads Go.Proofs.YtnnnlbbgmdoehaaDoorW.PrintWords Go.Proofs.YtnnnlbbgmdoehaaDoorW.PrintLast Go.Proofs.YtnnnlbbgmdoehaaDoor.Df Go.Proofs.YtnnnlbbgmdoehaaDoor




theorem bind_of {α β : Type} {o : Option α} {a : α} (h : o = some a) (f : α → Option β) : o.bind f = f a := by rw [h]; rfl

/-! ### lists -/
theorem inB_iff {l : List ByteArray} {s : ByteArray} : inB l s = true ↔ s ∈ l := by
  unfold inB
  rw [List.any_eq_true]
  constructor
  · rintro ⟨x, hx, h⟩; rwa [← of_decide_eq_true h]
  · intro h; exact ⟨s, h, by simp⟩
theorem inB_false {l : List ByteArray} {s : ByteArray} : inB l s = false ↔ s ∉ l := by
  rw [← Bool.not_eq_true, inB_iff]
theorem mem_ofV {l l1 : List ByteArray} {b : Bool} {s : ByteArray} : s ∈ ofV l l1 b ↔ s ∈ l ∧ inB l1 s = b := by
  unfold ofV
  rw [List.mem_filter]
  cases inB l1 s <;> cases b <;> simp
theorem length_le_of_subset : ∀ (l m : List ByteArray), l.Nodup → (∀ x ∈ l, x ∈ m) → l.length ≤ m.length
  | [], m, _, _ => Nat.zero_le _
  | a :: t, m, hn, hs => by
    obtain ⟨h1, h2⟩ := List.nodup_cons.1 hn
    have ha := hs a (by simp)
    have ih := length_le_of_subset t (m.filter fun x => !decide (x = a)) h2 (fun x hx => List.mem_filter.2 ⟨hs x (by simp [hx]), by simp; rintro rfl; exact h1 hx⟩)
    have hlt : (m.filter fun x => !decide (x = a)).length < m.length := List.length_filter_lt_length_iff_exists.2 ⟨a, ha, by simp⟩
    rw [List.length_cons]
    omega
theorem ofV_cons (s : ByteArray) (r l1 : List ByteArray) (b : Bool) : ofV (s :: r) l1 b = if inB l1 s = b then s :: ofV r l1 b else ofV r l1 b := by
  unfold ofV
  rw [List.filter_cons]
  cases inB l1 s <;> cases b <;> rfl
theorem ofV_nodup {l l1 : List ByteArray} {b : Bool} (h : l.Nodup) : (ofV l l1 b).Nodup := by unfold ofV; exact List.Pairwise.filter _ h
theorem both_len {a b : List ByteArray} (ha : a.Nodup) (hb : b.Nodup) : (ofV a b true).length = (ofV b a true).length := by
  refine Nat.le_antisymm (length_le_of_subset _ _ (ofV_nodup ha) ?_) (length_le_of_subset _ _ (ofV_nodup hb) ?_) <;>
  · intro x hx
    rw [mem_ofV, inB_iff] at hx ⊢
    exact ⟨hx.2, hx.1⟩
theorem parts_len (l l1 : List ByteArray) : (ofV l l1 false).length + (ofV l l1 true).length = l.length := by
  induction l with
  | nil => rfl
  | cons s r ih =>
    rw [ofV_cons, ofV_cons]
    cases inB l1 s
    · rw [if_pos rfl, if_neg (by decide), List.length_cons, List.length_cons]; omega
    · rw [if_neg (by decide), if_pos rfl, List.length_cons, List.length_cons]; omega
theorem ofV_self_true (l : List ByteArray) : ofV l l true = l := by
  unfold ofV
  rw [List.filter_eq_self]
  intro s hs
  rw [inB_iff.2 hs]; rfl
theorem ofV_self_false (l : List ByteArray) : ofV l l false = [] := by
  unfold ofV
  rw [List.filter_eq_nil_iff]
  intro s hs
  rw [inB_iff.2 hs]; simp
theorem ofV_nil_false (l : List ByteArray) : ofV l [] false = l := by
  unfold ofV
  rw [List.filter_eq_self]
  intro s _
  rfl
theorem ofV_nil_true (l : List ByteArray) : ofV l [] true = [] := by
  unfold ofV
  rw [List.filter_eq_nil_iff]
  intro s _
  simp [inB]

/-! ### what the printed functions tell -/


theorem same_from (l m : List ByteArray) (hl : l.length ≤ 1000) (he : l.length = m.length) : ∀ (d k i : Nat), l.length - i = d → i ≤ l.length → d < k → l.drop i = m.drop i → hostlerref09_Same.l0 k l m (i : Int) = some true
  | 0, k, i, hd, hi, hk, _ => by
    obtain ⟨k, rfl⟩ : ∃ m, k = m + 1 := ⟨k - 1, by omega⟩
    simp only [hostlerref09_Same.l0]
    rw [if_neg (by omega)]
  | d + 1, k, i, hd, hi, hk, h => by
    obtain ⟨k, rfl⟩ : ∃ m, k = m + 1 := ⟨k - 1, by omega⟩
    have hlt : i < l.length := by omega
    rw [List.drop_eq_getElem_cons hlt, List.drop_eq_getElem_cons (by omega : i < m.length)] at h
    injection h with h1 h2
    simp only [hostlerref09_Same.l0]
    rw [if_pos (by omega), if_pos (by omega), if_pos (by omega), rdOf_nat l i hlt, rdOf_nat m i (by omega), if_pos (bytes_eq.2 h1), w64 (by omega) (by omega), show ((i : Int) + 1) = ((i + 1 : Nat) : Int) by omega]
    exact same_from l m hl he d k (i + 1) (by omega) (by omega) (by omega) h2
theorem same_is (l : List ByteArray) (k : Nat) (hl : l.length ≤ 1000) (hk : l.length < k) : hostlerref09_Same.f k l l = some true := by
  unfold hostlerref09_Same.f
  rw [if_pos rfl]
  exact same_from l l hl rfl l.length k 0 (by omega) (by omega) hk rfl
theorem lives_is : hostlerlaw09_lives.f = some true := by decide +kernel
theorem check_is {l : List ByteArray} (h : smallB l = true) : diff_Check.f l = some (checkV l) := by unfold diff_Check.f checkF; rw [if_pos h]
theorem small_of {l : List ByteArray} (h1 : l.length ≤ 1000) (h2 : ∀ s ∈ l, s.size ≤ 1000) : smallB l = true := by
  unfold smallB
  simp only [Bool.and_eq_true, decide_eq_true_eq, List.all_eq_true]
  exact ⟨h1, h2⟩
theorem small_mem {l : List ByteArray} (h : smallB l = true) {s : ByteArray} (hs : s ∈ l) : s.size ≤ 1000 := by
  unfold smallB at h
  simp only [Bool.and_eq_true, decide_eq_true_eq, List.all_eq_true] at h
  exact h.2 s hs

/-! ### DiffDiffs -/
def cut20 (s : ByteArray) : ByteArray := s.extract 0 (min s.size 20)
def fewV (l : List ByteArray) : List ByteArray := (l.take 20).map cut20
theorem few_small (l : List ByteArray) : smallB (fewV l) = true ∧ (fewV l).length ≤ 20 := by
  have h1 : (fewV l).length ≤ 20 := by unfold fewV; rw [List.length_map, List.length_take]; omega
  refine ⟨small_of (by omega) (fun s hs => ?_), h1⟩
  unfold fewV at hs
  obtain ⟨t, _, rfl⟩ := List.mem_map.1 hs
  unfold cut20
  rw [ByteArray.size_extract]
  omega
theorem cut20_is (s : ByteArray) : 0 ≤ mn (s.size : Int) 20 ∧ mn (s.size : Int) 20 ≤ s.size ∧ s.extract 0 (mn (s.size : Int) 20).toNat = cut20 s := by
  have e : (mn (s.size : Int) 20).toNat = min s.size 20 := by unfold mn; split <;> omega
  refine ⟨by unfold mn; split <;> omega, by unfold mn; split <;> omega, ?_⟩
  rw [e]; rfl
theorem few_from (l : List ByteArray) : ∀ (d k i : Nat) (o : List ByteArray), min l.length 20 - i = d → i ≤ min l.length 20 → o.length = i → d < k → hostlerlaw09_few.l0 k l o (i : Int) = some (o ++ ((l.take 20).drop i).map cut20)
  | 0, k, i, o, hd, hi, ho, hk => by
    obtain ⟨k, rfl⟩ : ∃ m, k = m + 1 := ⟨k - 1, by omega⟩
    simp only [hostlerlaw09_few.l0]
    rw [List.drop_of_length_le (by rw [List.length_take]; omega), List.map_nil, List.append_nil]
    by_cases h : (i : Int) < (l.length : Int)
    · rw [if_pos h, if_neg (by omega)]
    · rw [if_neg h]
  | d + 1, k, i, o, hd, hi, ho, hk => by
    obtain ⟨k, rfl⟩ : ∃ m, k = m + 1 := ⟨k - 1, by omega⟩
    have hlt : i < l.length := by omega
    obtain ⟨c0, c1, c2⟩ := cut20_is l[i]
    have hl2 : i < (l.take 20).length := by rw [List.length_take]; omega
    simp only [hostlerlaw09_few.l0]
    rw [if_pos (by omega), if_pos (by omega), if_pos (by omega), rdOf_nat l i hlt, if_pos c0, if_pos c1, if_pos (by omega), c2, w64 (by omega) (by omega), show ((i : Int) + 1) = ((i + 1 : Nat) : Int) by omega,
      few_from l d k (i + 1) _ (by omega) (by omega) (by rw [List.length_append, ho]; rfl) (by omega), List.drop_eq_getElem_cons hl2, List.map_cons, List.getElem_take, List.append_assoc]
    rfl
theorem few_is (l : List ByteArray) (k : Nat) (hk : 20 < k) : hostlerlaw09_few.f k l = some (fewV l) := by
  have := few_from l (min l.length 20) k 0 [] (by omega) (by omega) rfl (by omega)
  rw [List.drop_zero, List.nil_append] at this
  exact this

/-! ### DiffReads, DiffBack -/
theorem bytes_ext {a b : ByteArray} (h : a.data.toList = b.data.toList) : a = b := by
  cases a; cases b
  simpa using h
theorem append_list (a b : ByteArray) : (a ++ b).data.toList = a.data.toList ++ b.data.toList := by
  rw [ByteArray.data_append, Array.toList_append]
def tx (L : List ByteArray) : ByteArray := ⟨(Lib.join (L.map (·.data.toList)) [44]).toArray⟩
theorem tx_list (L : List ByteArray) : (tx L).data.toList = Lib.join (L.map (·.data.toList)) [44] := rfl
theorem tx_snoc {L : List ByteArray} (h : L ≠ []) (s : ByteArray) : tx L ++ ((⟨#[44]⟩ : ByteArray) ++ s) = tx (L ++ [s]) := by
  apply bytes_ext
  rw [append_list, append_list, tx_list, tx_list, List.map_append, List.map_cons, List.map_nil, Sp.join_snoc _ _ _ (by simpa using h)]
theorem tx_size (L : List ByteArray) : (tx L).size = (Lib.join (L.map (·.data.toList)) [44]).length := rfl
theorem tx_small {L : List ByteArray} (h : smallB L = true) : (tx L).size ≤ 140737488355328 := by rw [tx_size]; exact join_small h
theorem small_take {L : List ByteArray} (h : smallB L = true) (i : Nat) : smallB (L.take i) = true :=
  small_of (by have := small_len h; rw [List.length_take]; omega) (fun s hs => small_mem h (List.mem_of_mem_take hs))
theorem text_from (l : List ByteArray) (hs : smallB l = true) : ∀ (d k i : Nat), l.length - i = d → 1 ≤ i → i ≤ l.length → d < k → hostlerref09_Text.l0 k l (tx (l.take i)) (i : Int) = some (tx l)
  | 0, k, i, hd, h1, hi, hk => by
    obtain ⟨k, rfl⟩ : ∃ m, k = m + 1 := ⟨k - 1, by omega⟩
    simp only [hostlerref09_Text.l0]
    rw [if_neg (by omega), List.take_of_length_le (by omega)]
  | d + 1, k, i, hd, h1, hi, hk => by
    obtain ⟨k, rfl⟩ : ∃ m, k = m + 1 := ⟨k - 1, by omega⟩
    have hlt : i < l.length := by omega
    have hl := small_len hs
    have q1 := small_mem hs (List.getElem_mem hlt)
    have q2 := tx_small (small_take hs i)
    have q3 : ((⟨#[44]⟩ : ByteArray) ++ l[i]).size = 1 + l[i].size := by rw [ByteArray.size_append]; rfl
    have q4 : l.take i ≠ [] := fun e => by have : (l.take i).length = 0 := by rw [e]; rfl
                                           rw [List.length_take] at this; omega
    simp only [hostlerref09_Text.l0]
    rw [if_pos (by omega), if_pos (by omega), rdOf_nat l i hlt, if_pos (by omega), if_pos (by omega), w64 (by omega) (by omega), show ((i : Int) + 1) = ((i + 1 : Nat) : Int) by omega, tx_snoc q4, ← List.take_succ_eq_append_getElem hlt]
    exact text_from l hs d k (i + 1) (by omega) (by omega) (by omega) (by omega)
theorem reftext_is (l : List ByteArray) (k : Nat) (hs : smallB l = true) (hk : 1000 < k) : hostlerref09_Text.f k l = some (textV l) := by
  have hl := small_len hs
  unfold hostlerref09_Text.f textV
  by_cases h0 : l.length = 0
  · rw [if_pos (by omega), if_pos h0]
  · rw [if_neg (by omega), if_neg h0, if_pos (by omega)]
    have := text_from l hs (l.length - 1) k 1 (by omega) (by omega) (by omega) (by omega)
    have e : tx (l.take 1) = rdOf ByteArray.empty l 0 := by
      have := rdOf_nat l 0 (by omega)
      rw [Int.natCast_zero] at this
      rw [this]
      apply bytes_ext
      rw [tx_list, List.take_one, List.head?_eq_getElem?, List.getElem?_eq_getElem (by omega)]
      exact Lib.join_one _ _
    rw [e] at this
    exact this
theorem piece_at (s : ByteArray) (i : Nat) (hlt : i < s.data.toList.length) : (s.extract i (i + 1)).data.toList = [s.data.toList[i]] ∧ (s.extract i (i + 1)).size = 1 := by
  have hx : (s.extract i (i + 1)).data.toList = [s.data.toList[i]] := by
    rw [Lib.extract_data, show i + 1 - i = 1 by omega, List.drop_eq_getElem_cons hlt]
    rfl
  refine ⟨hx, ?_⟩
  rw [show (s.extract i (i + 1)).size = (s.extract i (i + 1)).data.toList.length from (Array.length_toList).symm, hx]; rfl
theorem read_step (s : ByteArray) (n i : Nat) (k : Nat) (l : List ByteArray) (w : ByteArray) (hn : s.size = n) (hs : n ≤ 500) (hlt : i < s.data.toList.length) (hi : i < n) (hl : l.length ≤ i) (hw : w.size ≤ i) :
    hostlerref09_Read.l0 (k + 1) s l w (i : Int) = if s.data.toList[i] = 44 then hostlerref09_Read.l0 k s (l ++ [w]) ⟨#[]⟩ ((i + 1 : Nat) : Int) else hostlerref09_Read.l0 k s l (w ++ s.extract i (i + 1)) ((i + 1 : Nat) : Int) := by
  have hb : bt s (i : Int) = ((s.data.toList[i]).toNat : Int) := bt_nat s i hlt
  have hx := (piece_at s i hlt).2
  generalize hc : s.data.toList[i] = c at hb ⊢
  have hwr : wrap64 ((i : Int) + 1) = ((i + 1 : Nat) : Int) := by rw [w64 (by omega) (by omega)]; omega
  have h1 : (i : Int) < (n : Int) := by omega
  have h2 : 0 ≤ (i : Int) := by omega
  have h3 : (i : Int) ≤ ((i + 1 : Nat) : Int) := by omega
  have h4 : ((i + 1 : Nat) : Int) ≤ (n : Int) := by omega
  have h5 : w.size + 1 ≤ 9223372036854775807 := by omega
  have h6 : l.length < 8796093022208 := by omega
  simp only [hostlerref09_Read.l0]
  rw [hn, if_pos h1, if_pos h2, hb, hwr, Int.toNat_natCast, Int.toNat_natCast, hx, if_pos h6, if_pos h3, if_pos h4, if_pos h5]
  by_cases h : c = 44
  · rw [if_pos h, if_pos (by rw [h]; rfl)]
  · rw [if_neg h, if_neg (fun e => h (UInt8.toNat_inj.1 (by
      have e' : c.toNat = 44 := by omega
      rw [e']; rfl)))]
theorem read_from (s : ByteArray) (hs : s.size ≤ 500) (h0 : s.toList ≠ []) (h1 : s.toList ≠ [45]) : ∀ (d k i : Nat) (l : List ByteArray) (w : ByteArray), s.size - i = d → i ≤ s.size → d < k → l.length ≤ i → w.size ≤ i →
    Sp.Pieces 44 (s.data.toList.take i) ((l ++ [w]).map (·.data.toList)) → hostlerref09_Read.l0 k s l w (i : Int) = some (readV s)
  | 0, k, i, l, w, hd, hi, hk, hl, hw, hp => by
    obtain ⟨k, rfl⟩ : ∃ m, k = m + 1 := ⟨k - 1, by omega⟩
    have hq : l ++ [w] = cutV 44 s := by
      have e := Sp.unique hp (by
        rw [List.take_of_length_le (by rw [Array.length_toList]; show s.size ≤ i; omega)]
        exact cutV_pieces 44 s)
      exact (List.map_inj_right (fun a b h => bytes_ext h)).1 e
    have hsm := cutV_small 44 s (by omega)
    have hc : hostlerref09_Check.f (cutV 44 s) = some (checkV (cutV 44 s)) := by unfold hostlerref09_Check.f checkF; rw [if_pos hsm]
    simp only [hostlerref09_Read.l0]
    rw [if_neg (by omega), if_pos (by omega), bind_of rfl, hq, bind_of hc]
    unfold readV
    rw [if_neg h0, if_neg h1]
    by_cases hz : checkV (cutV 44 s) = 0
    · rw [if_pos hz, if_pos hz]
    · rw [if_neg hz, if_neg hz]
  | d + 1, k, i, l, w, hd, hi, hk, hl, hw, hp => by
    obtain ⟨k, rfl⟩ : ∃ m, k = m + 1 := ⟨k - 1, by omega⟩
    have hi2 : i < s.size := by omega
    have hlt : i < s.data.toList.length := by rw [Array.length_toList]; exact hi2
    have ht : s.data.toList.take (i + 1) = s.data.toList.take i ++ [s.data.toList[i]] := List.take_succ_eq_append_getElem hlt
    rw [read_step s s.size i k l w rfl hs hlt hi2 hl hw]
    by_cases hc : s.data.toList[i] = 44
    · rw [if_pos hc]
      refine read_from s hs h0 h1 d k (i + 1) _ _ (by omega) (by omega) (by omega) (by rw [List.length_append, List.length_singleton]; omega) (Nat.zero_le _) ?_
      rw [ht, hc, List.map_append]
      exact Sp.pieces_cut hp
    · obtain ⟨hx, hxs⟩ := piece_at s i hlt
      rw [if_neg hc]
      refine read_from s hs h0 h1 d k (i + 1) _ _ (by omega) (by omega) (by omega) (by omega) (by rw [ByteArray.size_append, hxs]; omega) ?_
      rw [ht, List.map_append, List.map_cons, List.map_nil, append_list, hx]
      rw [List.map_append] at hp
      exact Sp.pieces_more hc hp
theorem refread_is (s : ByteArray) (k : Nat) (hs : s.size ≤ 500) (hk : 500 < k) : hostlerref09_Read.f k s = some (readV s) := by
  unfold hostlerref09_Read.f
  by_cases h0 : s.toList = []
  · rw [if_pos h0]; unfold readV; rw [if_pos h0]
  · by_cases h1 : s.toList = [45]
    · rw [if_neg h0, if_pos h1]; unfold readV; rw [if_neg h0, if_pos h1]
    · rw [if_neg h0, if_neg h1]
      exact read_from s hs h0 h1 s.size k 0 [] _ (by omega) (by omega) (by omega) (Nat.le_refl _) (Nat.le_refl _) (Sp.pieces_start 44)
theorem readV_small (s : ByteArray) (hs : s.size ≤ 999) : smallB (readV s).1 = true := by
  unfold readV
  split
  · rfl
  · split
    · rfl
    · split
      · exact cutV_small 44 s hs
      · rfl

/-! ### there and back -/
theorem check_zero {l : List ByteArray} (h : checkV l = 0) : ∀ s ∈ l, nameB s = true := by
  unfold checkV at h
  intro s hs
  by_cases h1 : 16 < l.length
  · rw [if_pos h1] at h; cases h
  · rw [if_neg h1] at h
    cases ha : l.any badB with
    | true => rw [ha] at h; cases h
    | false =>
      have := (List.any_eq_false.1 ha) s hs
      unfold badB at this
      simpa using this
theorem name_facts {s : ByteArray} (h : nameB s = true) : s.size ≠ 0 ∧ s.size ≤ 16 ∧ (44 : UInt8) ∉ s.data.toList := by
  unfold nameB at h
  simp only [Bool.and_eq_true, decide_eq_true_eq, List.all_eq_true] at h
  exact ⟨h.1.1, h.1.2, fun hm => by have := h.2 _ hm; exact absurd this (by decide)⟩
theorem dash_eq {t : ByteArray} (h : t.toList = [45]) : t = ⟨#[45]⟩ := by
  rw [ByteArray.toList_eq] at h
  exact bytes_ext h
theorem tx_pieces {l : List ByteArray} (hn : ∀ s ∈ l, nameB s = true) (h0 : l ≠ []) : Sp.Pieces 44 (tx l).data.toList (l.map (·.data.toList)) := by
  refine ⟨by simpa using h0, fun x hx => ?_, rfl⟩
  obtain ⟨s, hs, rfl⟩ := List.mem_map.1 hx
  exact (name_facts (hn s hs)).2.2
theorem tx_bound {l : List ByteArray} (hn : ∀ s ∈ l, nameB s = true) (hl : l.length ≤ 20) : (tx l).size ≤ 400 := by
  rw [tx_size]
  have := join_le (sep := [44]) (by decide) (B := 16) (L := l.map (·.data.toList)) (fun x hx => by
    obtain ⟨s, hs, rfl⟩ := List.mem_map.1 hx
    have := (name_facts (hn s hs)).2.1
    rw [Array.length_toList]
    exact this)
  rw [List.length_map] at this
  have h2 : l.length * (16 + 1) ≤ 20 * 17 := Nat.mul_le_mul_right _ hl
  omega
theorem back1 {l : List ByteArray} (hl : l.length ≤ 20) (hc : checkV l = 0) (hne : l ≠ [⟨#[45]⟩]) : (textV l).size ≤ 999 ∧ readV (textV l) = (l, 0) := by
  have hn := check_zero hc
  by_cases h0 : l = []
  · subst h0
    decide +kernel
  · have ht : textV l = tx l := by
      unfold textV
      rw [if_neg (fun e => h0 (List.length_eq_zero_iff.1 e))]
      rfl
    have hp := tx_pieces hn h0
    have hb := tx_bound hn hl
    rw [ht]
    refine ⟨by omega, ?_⟩
    have hcut : cutV 44 (tx l) = l := (List.map_inj_right (fun a b h => bytes_ext h)).1 (Sp.unique (cutV_pieces 44 (tx l)) hp)
    have k0 : (tx l).toList ≠ [] := by
      intro e
      rw [ByteArray.toList_eq] at e
      rw [e] at hp
      have := Sp.unique hp (Sp.pieces_start 44)
      cases l with
      | nil => exact h0 rfl
      | cons s r =>
        simp only [List.map_cons, List.cons.injEq] at this
        have hz := (name_facts (hn s (by simp))).1
        exact hz (by rw [show s.size = s.data.toList.length from (Array.length_toList).symm, this.1]; rfl)
    have k1 : (tx l).toList ≠ [45] := by
      intro e
      rw [ByteArray.toList_eq] at e
      rw [e] at hp
      have := Sp.unique hp (show Sp.Pieces 44 [45] [[45]] from ⟨by simp, by simp, Lib.join_one _ _⟩)
      exact hne ((List.map_inj_right (fun a b h => bytes_ext h)).1 (this.trans rfl))
    unfold readV
    rw [if_neg k0, if_neg k1, hcut, if_pos hc]
theorem back2 {t : ByteArray} (h : (readV t).2 = 0) : textV (readV t).1 = t ∧ checkV (readV t).1 = 0 := by
  unfold readV at h ⊢
  by_cases k0 : t.toList = []
  · rw [if_pos k0] at h; cases h
  · by_cases k1 : t.toList = [45]
    · rw [if_neg k0, if_pos k1, dash_eq k1]
      decide +kernel
    · rw [if_neg k0, if_neg k1] at h ⊢
      by_cases hc : checkV (cutV 44 t) = 0
      · rw [if_pos hc]
        refine ⟨?_, hc⟩
        have hp := cutV_pieces 44 t
        show textV (cutV 44 t) = t
        unfold textV
        rw [if_neg (fun e => by rw [List.length_eq_zero_iff.1 e] at hp; exact hp.1 rfl)]
        exact bytes_ext hp.2.2
      · rw [if_neg hc] at h; exact absurd h hc
end Go.Proofs.YtnnnlbbgmdoehaaDoor.Pure
