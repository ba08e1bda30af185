/- A host's line, plainly: its parts, there and back. -/
import Derived.Test.YtogomkkglcddmaaDoorAdP
namespace Go.Proofs.YtogomkkglcddmaaDoor.Ad
open Go.RowKit Go.Proofs.YtogomkkglcddmaaDoor Go.Proofs.YtogomkkglcddmaaDoor.Nm Go.Proofs.YtogomkkglcddmaaDoor.Cf
/-- The states' words. -/
def statesL : List ByteArray := [bs [97, 99, 116, 105, 118, 101], bs [100, 114, 97, 105, 110, 105, 110, 103], bs [113, 117, 97, 114, 97, 110, 116, 105, 110, 101, 100], bs [114, 101, 116, 105, 114, 101, 100]]
def inS (n : Int) : Bool := decide (0 ≤ n) && decide (n < 4)
def stName (n : Int) : ByteArray := if inS n then statesL.getD n.toNat ⟨#[]⟩ else ⟨#[]⟩
def odd : ByteArray := bs [63]
def wordOf (n : Int) : ByteArray := if inS n then statesL.getD n.toNat ⟨#[]⟩ else odd
theorem inS_yes {n : Int} (h : inS n = true) : ∃ k : Nat, k < 4 ∧ n = k := by
  unfold inS at h
  rw [Bool.and_eq_true, decide_eq_true_eq, decide_eq_true_eq] at h
  exact ⟨n.toNat, by omega, by omega⟩
theorem inS_no {n : Int} (h : inS n = false) : n < 0 ∨ (0 ≤ n ∧ 4 ≤ n) := by
  unfold inS at h
  rw [Bool.and_eq_false_iff, decide_eq_false_iff_not, decide_eq_false_iff_not] at h
  omega
theorem inS_of {k : Nat} (h : k < 4) : inS (k : Int) = true := by
  unfold inS
  rw [Bool.and_eq_true, decide_eq_true_eq, decide_eq_true_eq]
  omega
theorem wordOf_at {k : Nat} (h : k < 4) : wordOf (k : Int) = statesL.getD k e0 := by
  unfold wordOf
  rw [inS_of h]
  rfl
theorem wordOf_out {n : Int} (h : inS n = false) : wordOf n = odd := by
  unfold wordOf
  rw [h]
  rfl
theorem word_facts (k : Fin 4) : (32 : UInt8) ∉ (statesL.getD k.val e0).data.toList ∧ (statesL.getD k.val e0).size ≤ 11 ∧ (statesL.getD k.val e0).size ≠ 0 ∧ statesL.getD k.val e0 ≠ odd := by
  revert k
  decide +kernel
theorem words_ne : ∀ (j k : Fin 4), statesL.getD j.val e0 = statesL.getD k.val e0 → j = k := by decide +kernel
theorem wordOf_clean (n : Int) : (32 : UInt8) ∉ (wordOf n).data.toList ∧ (wordOf n).size ≤ 11 := by
  cases h : inS n with
  | true =>
    obtain ⟨k, hk, rfl⟩ := inS_yes h
    rw [wordOf_at hk]
    have := word_facts ⟨k, hk⟩
    exact ⟨this.1, this.2.1⟩
  | false =>
    rw [wordOf_out h]
    exact ⟨by decide, by decide⟩
/-- May a word be a state's, or odd? -/
def stateB (x : ByteArray) : Bool := decide (0 ≤ Lib.idxOfS statesL x) || decide (x = odd)
def rowV (name : ByteArray) (st : Int) (c : List Int) : ByteArray := joinV (name :: wordOf st :: digs c)
def partsL (l : List ByteArray) : Option (ByteArray × ByteArray × List Int) :=
  if l.length = 5 ∧ nameB (l.getD 0 e0) = true ∧ stateB (l.getD 1 e0) = true then (numsV (l.drop 2)).map fun c => (l.getD 0 e0, l.getD 1 e0, c) else none
def partsV (s : ByteArray) : Option (ByteArray × ByteArray × List Int) := partsL (cutV 32 s)
theorem join_app (sep : List UInt8) : ∀ (L : List (List UInt8)) {M : List (List UInt8)}, L ≠ [] → M ≠ [] → Lib.join (L ++ M) sep = Lib.join L sep ++ (sep ++ Lib.join M sep)
  | [], _, h, _ => absurd rfl h
  | [x], y :: r, _, _ => by
    show Lib.join (x :: y :: r) sep = _
    rw [Sp.join_two, Lib.join_one]
  | [x], [], _, h => absurd rfl h
  | x :: y :: r, M, _, hM => by
    show Lib.join (x :: y :: (r ++ M)) sep = _
    rw [Sp.join_two, Sp.join_two, show y :: (r ++ M) = (y :: r) ++ M from rfl, join_app sep (y :: r) (by simp) hM]
    simp [List.append_assoc]
theorem cut_more {a : ByteArray} {M : List ByteArray} (hM : M ≠ []) (hc : ∀ x ∈ M, (32 : UInt8) ∉ x.data.toList) : cutV 32 (joinV (a :: M)) = cutV 32 a ++ M := by
  have hp := cutV_pieces 32 a
  have hm : (M.map (·.data.toList)) ≠ [] := by simpa using hM
  refine (cutV_one ⟨?_, ?_, ?_⟩).symm
  · rw [List.map_append]
    exact List.append_ne_nil_of_left_ne_nil hp.1 _
  · intro x hx
    rw [List.map_append, List.mem_append] at hx
    rcases hx with hx | hx
    · exact hp.2.1 x hx
    · obtain ⟨y, hy, rfl⟩ := List.mem_map.1 hx
      exact hc y hy
  · rw [List.map_append, join_app _ _ hp.1 hm, hp.2.2]
    unfold joinV
    rw [bs_list, List.map_cons]
    cases hq : M.map (·.data.toList) with
    | nil => exact absurd hq hm
    | cons y r => rw [Sp.join_two]
theorem digs_clean {c : List Int} : ∀ x ∈ digs c, (32 : UInt8) ∉ x.data.toList := by
  intro x hx
  unfold digs at hx
  obtain ⟨y, _, rfl⟩ := List.mem_map.1 hx
  rw [bs_list]
  exact itoa_clean y
theorem cut_row (name : ByteArray) (st : Int) (c : List Int) : cutV 32 (rowV name st c) = cutV 32 name ++ (wordOf st :: digs c) := by
  unfold rowV
  refine cut_more (by simp) fun x hx => ?_
  rcases List.mem_cons.1 hx with rfl | hx
  · exact (wordOf_clean st).1
  · exact digs_clean x hx
theorem digs_inj {a b : List Int} (h : digs a = digs b) : a = b := by
  have h1 := congrArg (List.map (·.data.toList)) h
  rw [digs_list, digs_list] at h1
  exact List.map_inj_right (fun _ _ e => itoa_inj e) |>.1 h1
/-- A host's line has its parts. -/
theorem row_parts {name x y : ByteArray} {st : Int} {c d : List Int} (hc : c.length = 3) (h : partsV (rowV name st c) = some (x, y, d)) : x = name ∧ d = c := by
  unfold partsV partsL at h
  rw [cut_row] at h
  split at h
  · rename_i hl
    have hlen : (cutV 32 name).length = 1 := by
      have h5 := hl.1
      rw [List.length_append, List.length_cons] at h5
      unfold digs at h5
      rw [List.length_map, hc] at h5
      omega
    obtain ⟨z, r, hz⟩ := cutV_ne 32 name
    rw [hz, List.length_cons] at hlen
    have hr : r = [] := List.eq_nil_of_length_eq_zero (by omega)
    subst hr
    have hzn : z = name := by
      have := join_text name
      rw [hz] at this
      unfold joinV at this
      simp only [List.map_cons, List.map_nil, Lib.join_one, of_bs] at this
      exact this
    rw [hz] at h
    have hd : ([z] ++ wordOf st :: digs c).drop 2 = digs c := rfl
    rw [hd] at h
    cases hn : numsV (digs c) with
    | none => rw [hn] at h; cases h
    | some q =>
      rw [hn] at h
      cases h
      exact ⟨hzn, digs_inj (numsV_text hn).1⟩
  · cases h
theorem partsV_some {s x y : ByteArray} {d : List Int} (h : partsV s = some (x, y, d)) : cutV 32 s = x :: y :: digs d ∧ d.length = 3 ∧ nameB x = true ∧ stateB y = true ∧ ∀ v ∈ d, -999999999 ≤ v ∧ v ≤ 999999999 := by
  unfold partsV partsL at h
  split at h
  · rename_i hl
    cases hn : numsV ((cutV 32 s).drop 2) with
    | none => rw [hn] at h; cases h
    | some q =>
      rw [hn] at h
      obtain ⟨e1, e2⟩ := numsV_text hn
      have e3 := numsV_len hn
      obtain ⟨h5, h6, h7⟩ := hl
      generalize cutV 32 s = l at *
      match l, h5 with
      | [a, b, p, q', r], _ =>
        cases h
        exact ⟨by rw [e1]; rfl, by rw [e3]; rfl, h6, h7, e2⟩
  · cases h
/-- The number of the state with this word; -1: none. -/
def kOf (b : ByteArray) : Int := Lib.idxOfS statesL b
theorem kOf_cases (x : ByteArray) : (∃ k, k < 4 ∧ x = statesL.getD k e0 ∧ kOf x = (k : Int)) ∨ (kOf x = -1 ∧ ∀ k, k < 4 → statesL.getD k e0 ≠ x) := by
  have h : kOf x = if statesL.getD 0 e0 = x then 0 else if statesL.getD 1 e0 = x then 1 else if statesL.getD 2 e0 = x then 2 else if statesL.getD 3 e0 = x then 3 else -1 := by
    unfold kOf Lib.idxOfS statesL
    simp only [Lib.idxFromS]
    rfl
  by_cases h0 : statesL.getD 0 e0 = x
  · exact .inl ⟨0, by omega, h0.symm, by rw [h, if_pos h0]; rfl⟩
  by_cases h1 : statesL.getD 1 e0 = x
  · exact .inl ⟨1, by omega, h1.symm, by rw [h, if_neg h0, if_pos h1]; rfl⟩
  by_cases h2 : statesL.getD 2 e0 = x
  · exact .inl ⟨2, by omega, h2.symm, by rw [h, if_neg h0, if_neg h1, if_pos h2]; rfl⟩
  by_cases h3 : statesL.getD 3 e0 = x
  · exact .inl ⟨3, by omega, h3.symm, by rw [h, if_neg h0, if_neg h1, if_neg h2, if_pos h3]; rfl⟩
  refine .inr ⟨by rw [h, if_neg h0, if_neg h1, if_neg h2, if_neg h3], fun k hk => ?_⟩
  match k, hk with
  | 0, _ => exact h0
  | 1, _ => exact h1
  | 2, _ => exact h2
  | 3, _ => exact h3
/-- Behind k rounds of the search. -/
def kRound (b : ByteArray) (k : Nat) : Int := if 0 ≤ kOf b ∧ kOf b < k then kOf b else -1
theorem kRound_0 (b : ByteArray) : kRound b 0 = -1 := by
  unfold kRound
  rw [if_neg (by omega)]
theorem kRound_hit {x : ByteArray} {k : Nat} (hk : k < 4) (h : statesL.getD k e0 = x) : kRound x (k + 1) = (k : Int) := by
  have hk2 : kOf x = (k : Int) := by
    rcases kOf_cases x with ⟨j, hj, hx, h2⟩ | ⟨_, h2⟩
    · have := words_ne ⟨k, hk⟩ ⟨j, hj⟩ (h.trans hx)
      have e : k = j := congrArg Fin.val this
      rw [h2, e]
    · exact absurd h (h2 k hk)
  unfold kRound
  rw [if_pos (by omega), hk2]
theorem kRound_miss {x : ByteArray} {k : Nat} (_ : k < 4) (h : statesL.getD k e0 ≠ x) : kRound x (k + 1) = kRound x k := by
  have hn : kOf x ≠ (k : Int) := by
    intro e
    rcases kOf_cases x with ⟨j, hj, hx, h2⟩ | ⟨h2, _⟩
    · obtain rfl : j = k := by omega
      exact h hx.symm
    · omega
  unfold kRound
  by_cases h1 : 0 ≤ kOf x ∧ kOf x < k
  · rw [if_pos h1, if_pos (by omega)]
  · rw [if_neg h1, if_neg (by omega)]
theorem kRound_4 (x : ByteArray) : kRound x 4 = kOf x := by
  unfold kRound
  rcases kOf_cases x with ⟨j, hj, _, h2⟩ | ⟨h2, _⟩
  · rw [if_pos (by omega)]
  · rw [if_neg (by omega), h2]
theorem wordOf_k {y : ByteArray} (h : stateB y = true) : wordOf (kOf y) = y := by
  rcases kOf_cases y with ⟨k, hk, hx, h2⟩ | ⟨h2, h3⟩
  · rw [h2, wordOf_at hk, hx]
  · rw [h2, wordOf_out (by decide)]
    unfold stateB at h
    rw [Bool.or_eq_true, decide_eq_true_eq, decide_eq_true_eq] at h
    rcases h with h | h
    · unfold kOf at h2; omega
    · exact h.symm
/-- The parts of a host's line make it again. -/
theorem parts_row {s x y : ByteArray} {d : List Int} (h : partsV s = some (x, y, d)) : rowV x (kOf y) d = s := by
  obtain ⟨h1, _, _, h4, _⟩ := partsV_some h
  unfold rowV
  rw [wordOf_k h4, ← h1, join_text]
/-- The text that the law looks for, of a state and of a word. -/
def hB : ByteArray := bs [104]
theorem probe_row (k : Nat) : rowV hB (k : Int) [0, 0, 0] = bs ([104, 32] ++ ((wordOf (k : Int)).data.toList ++ [32, 48, 32, 48, 32, 48])) := by
  unfold rowV joinV
  have : (hB :: wordOf (k : Int) :: digs [0, 0, 0]).map (·.data.toList) = [[104], (wordOf (k : Int)).data.toList, [48], [48], [48]] := by
    rw [List.map_cons, List.map_cons, digs_list]
    have h0 : Lib.itoa 0 = [48] := by decide +kernel
    simp [h0, hB, bs_list]
  rw [this]
  simp [Sp.join_two, Lib.join_one]
theorem probe_iff {k : Nat} (hk : k < 4) (b : ByteArray) : rowV hB (k : Int) [0, 0, 0] = bs ([104, 32] ++ (b.data.toList ++ [32, 48, 32, 48, 32, 48])) ↔ statesL.getD k e0 = b := by
  rw [probe_row, wordOf_at hk]
  constructor
  · intro h
    have h1 := bs_inj h
    have h2 := List.append_cancel_right (List.append_cancel_left h1)
    exact ByteArray.ext (Array.toList_inj.1 h2)
  · rintro rfl
    rfl
end Go.Proofs.YtogomkkglcddmaaDoor.Ad
