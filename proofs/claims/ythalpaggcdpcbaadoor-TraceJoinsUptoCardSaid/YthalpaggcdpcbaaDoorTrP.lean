/- Escaped texts, plainly: what is escaped is the text again, and nothing else is. -/
import Derived.Test.YthalpaggcdpcbaaDoorTSt
namespace Go.Proofs.YthalpaggcdpcbaaDoor.Tr
open Go.Proofs.YthalpaggcdpcbaaDoor Go.Proofs.YthalpaggcdpcbaaDoor.Nm
/-- The signs of a byte to the base 16. -/
def signsL : List UInt8 := [48, 49, 50, 51, 52, 53, 54, 55, 56, 57, 97, 98, 99, 100, 101, 102]
def plainB (c : UInt8) : Bool := decide (32 ≤ c.toNat) && decide (c.toNat ≤ 126) && !decide (c.toNat = 92)
def hexD (n : Nat) : UInt8 := signsL.getD n 0
def escB (c : UInt8) : List UInt8 := if plainB c = true then [c] else [92, hexD (c.toNat / 16), hexD (c.toNat % 16)]
def escL (l : List UInt8) : List UInt8 := l.flatMap escB
def hexI (c : UInt8) : Int := Lib.indexByte signsL c
def byteOf (h l : UInt8) : UInt8 := UInt8.ofNat ((hexI h).toNat * 16 + (hexI l).toNat)
/-- May three bytes stand for one? -/
def tripB (c h l : UInt8) : Bool := decide (c = 92) && decide (0 ≤ hexI h) && decide (0 ≤ hexI l) && !plainB (byteOf h l)
def unescL : List UInt8 → Option (List UInt8)
  | [] => some []
  | [c] => if plainB c = true then some [c] else none
  | [c, d] => if plainB c = true then (unescL [d]).map (c :: ·) else none
  | c :: h :: l :: r => if plainB c = true then (unescL (h :: l :: r)).map (c :: ·) else if tripB c h l = true then (unescL r).map (byteOf h l :: ·) else none
theorem unesc_plain {c : UInt8} (h : plainB c = true) : ∀ r, unescL (c :: r) = (unescL r).map (c :: ·)
  | [] => by simp [unescL, h]
  | [d] => by simp [unescL, h]
  | a :: b :: r => by rw [unescL, if_pos h]
theorem unesc_three {c h l : UInt8} (r : List UInt8) (hc : plainB c = false) (ht : tripB c h l = true) : unescL (c :: h :: l :: r) = (unescL r).map (byteOf h l :: ·) := by
  rw [unescL, if_neg (by rw [hc]; exact Bool.false_ne_true), if_pos ht]
theorem unesc_bad {c h l : UInt8} (r : List UInt8) (hc : plainB c = false) (ht : tripB c h l = false) : unescL (c :: h :: l :: r) = none := by
  rw [unescL, if_neg (by rw [hc]; exact Bool.false_ne_true), if_neg (by rw [ht]; exact Bool.false_ne_true)]
theorem unesc_short {c : UInt8} {r : List UInt8} (hc : plainB c = false) (hr : r.length < 2) : unescL (c :: r) = none := by
  match r, hr with
  | [], _ => rw [unescL, if_neg (by rw [hc]; exact Bool.false_ne_true)]
  | [d], _ => rw [unescL, if_neg (by rw [hc]; exact Bool.false_ne_true)]
theorem hex_facts : ∀ i : Fin 256, plainB (UInt8.ofNat i.val) = false → tripB 92 (hexD (i.val / 16)) (hexD (i.val % 16)) = true ∧ byteOf (hexD (i.val / 16)) (hexD (i.val % 16)) = UInt8.ofNat i.val := by decide +kernel
theorem hex_back : ∀ i : Fin 256, 0 ≤ hexI (UInt8.ofNat i.val) → hexD (hexI (UInt8.ofNat i.val)).toNat = UInt8.ofNat i.val ∧ (hexI (UInt8.ofNat i.val)).toNat < 16 := by decide +kernel
theorem of_fin (c : UInt8) : UInt8.ofNat (⟨c.toNat, c.toNat_lt⟩ : Fin 256).val = c := UInt8.ofNat_toNat
theorem hexI_back {c : UInt8} (h : 0 ≤ hexI c) : hexD (hexI c).toNat = c ∧ (hexI c).toNat < 16 := by
  have := hex_back ⟨c.toNat, c.toNat_lt⟩
  rw [of_fin] at this
  exact this h
theorem esc_hex {c : UInt8} (h : plainB c = false) : tripB 92 (hexD (c.toNat / 16)) (hexD (c.toNat % 16)) = true ∧ byteOf (hexD (c.toNat / 16)) (hexD (c.toNat % 16)) = c := by
  have := hex_facts ⟨c.toNat, c.toNat_lt⟩
  rw [of_fin] at this
  exact this h
theorem plain_92 : plainB 92 = false := by decide
theorem escB_plain {c : UInt8} (h : plainB c = true) : escB c = [c] := by unfold escB; rw [if_pos h]
theorem escB_hex {c : UInt8} (h : plainB c = false) : escB c = [92, hexD (c.toNat / 16), hexD (c.toNat % 16)] := by unfold escB; rw [if_neg (by rw [h]; exact Bool.false_ne_true)]
theorem escL_cons (c : UInt8) (r : List UInt8) : escL (c :: r) = escB c ++ escL r := List.flatMap_cons
theorem escL_append (a b : List UInt8) : escL (a ++ b) = escL a ++ escL b := List.flatMap_append
/-- What is escaped is the text again. -/
theorem unesc_esc : ∀ l : List UInt8, unescL (escL l) = some l
  | [] => rfl
  | c :: r => by
    have ih := unesc_esc r
    rw [escL_cons]
    cases h : plainB c with
    | true =>
      rw [escB_plain h]
      show unescL (c :: escL r) = _
      rw [unesc_plain h, ih]
      rfl
    | false =>
      rw [escB_hex h]
      obtain ⟨h1, h2⟩ := esc_hex h
      show unescL (92 :: _ :: _ :: escL r) = _
      rw [unesc_three _ plain_92 h1, ih, h2]
      rfl
theorem escL_inj {a b : List UInt8} (h : escL a = escL b) : a = b := by
  have h1 := unesc_esc a
  rw [h, unesc_esc b] at h1
  injection h1 with h1
  exact h1.symm
theorem esc_trip {c h l : UInt8} (ht : tripB c h l = true) : escB (byteOf h l) = [c, h, l] := by
  unfold tripB at ht
  rw [Bool.and_eq_true, Bool.and_eq_true, Bool.and_eq_true, decide_eq_true_eq, decide_eq_true_eq, decide_eq_true_eq, Bool.not_eq_true'] at ht
  obtain ⟨⟨⟨rfl, h1⟩, h2⟩, h3⟩ := ht
  obtain ⟨a1, a2⟩ := hexI_back h1
  obtain ⟨b1, b2⟩ := hexI_back h2
  rw [escB_hex h3]
  have e : (byteOf h l).toNat = (hexI h).toNat * 16 + (hexI l).toNat := by
    unfold byteOf
    rw [UInt8.toNat_ofNat_of_lt' (by show _ < 256; omega)]
  rw [e, show ((hexI h).toNat * 16 + (hexI l).toNat) / 16 = (hexI h).toNat by omega, show ((hexI h).toNat * 16 + (hexI l).toNat) % 16 = (hexI l).toNat by omega, a1, b1]
/-- A text that is one's, escaped, is that one's alone. -/
theorem esc_unesc : ∀ (n : Nat) (s o : List UInt8), s.length ≤ n → unescL s = some o → escL o = s
  | _, [], o, _, h => by rw [unescL] at h; cases h; rfl
  | 0, c :: r, _, hn, _ => by simp at hn
  | n + 1, c :: r, o, hn, h => by
    cases hc : plainB c with
    | true =>
      rw [unesc_plain hc] at h
      cases h2 : unescL r with
      | none => rw [h2] at h; cases h
      | some q =>
        rw [h2] at h
        cases h
        show escL (c :: q) = _
        rw [escL_cons, escB_plain hc, esc_unesc n r q (by simpa using hn) h2]
        rfl
    | false =>
      match r, hn, h with
      | [], _, h => rw [unesc_short hc (by simp)] at h; cases h
      | [d], _, h => rw [unesc_short hc (by simp)] at h; cases h
      | a :: b :: r, hn, h =>
        cases ht : tripB c a b with
        | false => rw [unesc_bad r hc ht] at h; cases h
        | true =>
          rw [unesc_three r hc ht] at h
          cases h2 : unescL r with
          | none => rw [h2] at h; cases h
          | some q =>
            rw [h2] at h
            cases h
            show escL (byteOf a b :: q) = _
            rw [escL_cons, esc_trip ht, esc_unesc n r q (by simp at hn; omega) h2]
            rfl
theorem unesc_iff {s o : List UInt8} : unescL s = some o ↔ escL o = s :=
  ⟨fun h => esc_unesc _ s o (Nat.le_refl _) h, fun h => by rw [← h, unesc_esc]⟩
/-- The reference's reading: any three bytes that are a byte's, whatever they stand for. -/
def digI (c : UInt8) : Int := if 48 ≤ c.toNat ∧ c.toNat ≤ 57 then (c.toNat : Int) - 48 else if 97 ≤ c.toNat ∧ c.toNat ≤ 102 then (c.toNat : Int) - 97 + 10 else -1
theorem digI_hex_fin : ∀ i : Fin 256, digI (UInt8.ofNat i.val) = hexI (UInt8.ofNat i.val) := by decide +kernel
theorem digI_hex (c : UInt8) : digI c = hexI c := by
  have := digI_hex_fin ⟨c.toNat, c.toNat_lt⟩
  rwa [of_fin] at this
def rawL : List UInt8 → Option (List UInt8)
  | [] => some []
  | [c] => if c = 92 then none else some [c]
  | [c, d] => if c = 92 then none else (rawL [d]).map (c :: ·)
  | c :: h :: l :: r => if c = 92 then (if 0 ≤ digI h ∧ 0 ≤ digI l then (rawL r).map (byteOf h l :: ·) else none) else (rawL (h :: l :: r)).map (c :: ·)
theorem raw_plain {c : UInt8} (h : c ≠ 92) : ∀ r, rawL (c :: r) = (rawL r).map (c :: ·)
  | [] => by simp [rawL, h]
  | [d] => by simp [rawL, h]
  | a :: b :: r => by rw [rawL, if_neg h]
theorem raw_three {h l : UInt8} (r : List UInt8) (h1 : 0 ≤ digI h) (h2 : 0 ≤ digI l) : rawL (92 :: h :: l :: r) = (rawL r).map (byteOf h l :: ·) := by
  rw [rawL, if_pos rfl, if_pos ⟨h1, h2⟩]
theorem raw_bad {h l : UInt8} (r : List UInt8) (hn : ¬ (0 ≤ digI h ∧ 0 ≤ digI l)) : rawL (92 :: h :: l :: r) = none := by
  rw [rawL, if_pos rfl, if_neg hn]
theorem raw_short {r : List UInt8} (hr : r.length < 2) : rawL (92 :: r) = none := by
  match r, hr with
  | [], _ => rw [rawL, if_pos rfl]
  | [d], _ => rw [rawL, if_pos rfl]
theorem raw_esc : ∀ l : List UInt8, rawL (escL l) = some l
  | [] => rfl
  | c :: r => by
    have ih := raw_esc r
    rw [escL_cons]
    cases h : plainB c with
    | true =>
      rw [escB_plain h]
      have hc : c ≠ 92 := by rintro rfl; exact absurd h (by decide)
      show rawL (c :: escL r) = _
      rw [raw_plain hc, ih]
      rfl
    | false =>
      rw [escB_hex h]
      obtain ⟨h1, h2⟩ := esc_hex h
      have h3 := h1
      unfold tripB at h3
      rw [Bool.and_eq_true, Bool.and_eq_true, Bool.and_eq_true, decide_eq_true_eq, decide_eq_true_eq, decide_eq_true_eq] at h3
      show rawL (92 :: _ :: _ :: escL r) = _
      rw [raw_three _ (by rw [digI_hex]; exact h3.1.1.2) (by rw [digI_hex]; exact h3.1.2), ih, h2]
      rfl
/-- The reference's answer is the program's. -/
theorem ref_unesc (s : List UInt8) : ((rawL s).bind fun o => if escL o = s then some o else none) = unescL s := by
  cases h : unescL s with
  | some o =>
    have he := unesc_iff.1 h
    have h1 : rawL s = some o := by rw [← he]; exact raw_esc o
    rw [h1]
    show (if escL o = s then some o else none) = _
    rw [if_pos he]
  | none =>
    cases h1 : rawL s with
    | none => rfl
    | some o =>
      show (if escL o = s then some o else none) = none
      rw [if_neg]
      intro he
      rw [unesc_iff.2 he] at h
      cases h
theorem escB_len (c : UInt8) : 1 ≤ (escB c).length ∧ (escB c).length ≤ 3 := by
  unfold escB
  split
  · exact ⟨by simp, by simp⟩
  · exact ⟨by simp, by simp⟩
theorem escL_len : ∀ l : List UInt8, l.length ≤ (escL l).length ∧ (escL l).length ≤ 3 * l.length
  | [] => ⟨Nat.le_refl _, Nat.le_refl _⟩
  | c :: r => by
    have ih := escL_len r
    have h := escB_len c
    rw [escL_cons, List.length_append, List.length_cons]
    omega
theorem hexD_sign : ∀ i : Fin 16, 32 ≤ (hexD i.val).toNat ∧ (hexD i.val).toNat ≤ 126 := by decide
theorem escB_sign {c x : UInt8} (h : x ∈ escB c) : 32 ≤ x.toNat ∧ x.toNat ≤ 126 := by
  cases hc : plainB c with
  | true =>
    rw [escB_plain hc, List.mem_singleton] at h
    subst h
    unfold plainB at hc
    rw [Bool.and_eq_true, Bool.and_eq_true, decide_eq_true_eq, decide_eq_true_eq] at hc
    exact ⟨hc.1.1, hc.1.2⟩
  | false =>
    rw [escB_hex hc] at h
    have hlt := c.toNat_lt
    simp only [List.mem_cons, List.not_mem_nil, or_false] at h
    rcases h with rfl | rfl | rfl
    · decide
    · exact hexD_sign ⟨c.toNat / 16, by omega⟩
    · exact hexD_sign ⟨c.toNat % 16, by omega⟩
theorem escL_sign {l : List UInt8} {x : UInt8} (h : x ∈ escL l) : 32 ≤ x.toNat ∧ x.toNat ≤ 126 := by
  obtain ⟨c, _, hx⟩ := List.mem_flatMap.1 h
  exact escB_sign hx
end Go.Proofs.YthalpaggcdpcbaaDoor.Tr
