/- Outputs, plainly: which may be, as a value. -/
import Derived.Test.YthalpaggcdpcbaaDoorFn
import Derived.Test.YthalpaggcdpcbaaDoorTrP
namespace Go.Proofs.YthalpaggcdpcbaaDoor.Tr
open Go.Proofs.YthalpaggcdpcbaaDoor Go.Proofs.YthalpaggcdpcbaaDoor.Nm
/-- An output: its kind, its id, its frame's kind and data, its text. -/
structure OutV where
  k : Int
  id : Int
  fk : Int
  data : ByteArray
  text : ByteArray
def e0 : ByteArray := ⟨#[]⟩
def zeroO : OutV := ⟨0, 0, 0, e0, e0⟩
def numberV (id : Int) : Bool := decide (0 < id) && decide (id ≤ 999999999)
def bareV (o : OutV) : Bool := o.fk == 0 && o.data.toList.isEmpty
def emptyV (s : ByteArray) : Bool := s.toList.isEmpty
def rightV (o : OutV) : Bool :=
  if o.k = 0 ∨ o.k = 1 then numberV o.id && (!emptyV (fnameV o.fk) && emptyV o.text)
  else if o.k = 2 then numberV o.id && (bareV o && nameB o.text)
  else if o.k = 3 ∨ o.k = 4 then numberV o.id && (bareV o && emptyV o.text)
  else if o.k = 5 ∨ o.k = 6 then decide (o.id = 0) && (bareV o && !emptyV o.text)
  else false
theorem empty_yes {s : ByteArray} (h : emptyV s = true) : s = e0 := by
  unfold emptyV at h
  rw [ByteArray.toList_eq, List.isEmpty_iff] at h
  cases s with
  | mk d => exact congrArg ByteArray.mk (Array.toList_inj.1 h)
theorem empty_no {s : ByteArray} (h : emptyV s = false) : s.data.toList ≠ [] := by
  unfold emptyV at h
  rw [ByteArray.toList_eq] at h
  intro e
  rw [e] at h
  cases h
theorem num_is {id : Int} (h : numberV id = true) : 0 < id ∧ id ≤ 999999999 := by
  unfold numberV at h
  rw [Bool.and_eq_true, decide_eq_true_eq, decide_eq_true_eq] at h
  exact h
theorem bare_is {o : OutV} (h : bareV o = true) : o.fk = 0 ∧ o.data = e0 := by
  unfold bareV at h
  rw [Bool.and_eq_true, beq_iff_eq] at h
  exact ⟨h.1, empty_yes h.2⟩
theorem fname_is {k : Int} (h : emptyV (fnameV k) = false) : 1 ≤ k ∧ k ≤ 8 := by
  by_cases hk : 1 ≤ k ∧ k ≤ 8
  · exact hk
  · have hf : fnameV k = ⟨#[]⟩ := by
      unfold fnameV
      rw [if_neg (by omega), if_neg (by omega), if_neg (by omega), if_neg (by omega), if_neg (by omega), if_neg (by omega), if_neg (by omega), if_neg (by omega)]
    rw [hf] at h
    exact absurd h (by decide +kernel)
theorem right_cases {o : OutV} (h : rightV o = true) :
    ((o.k = 0 ∨ o.k = 1) ∧ 0 < o.id ∧ o.id ≤ 999999999 ∧ (1 ≤ o.fk ∧ o.fk ≤ 8) ∧ o.text = e0) ∨
    (o.k = 2 ∧ 0 < o.id ∧ o.id ≤ 999999999 ∧ o.fk = 0 ∧ o.data = e0 ∧ nameB o.text = true) ∨
    ((o.k = 3 ∨ o.k = 4) ∧ 0 < o.id ∧ o.id ≤ 999999999 ∧ o.fk = 0 ∧ o.data = e0 ∧ o.text = e0) ∨
    ((o.k = 5 ∨ o.k = 6) ∧ o.id = 0 ∧ o.fk = 0 ∧ o.data = e0 ∧ o.text.data.toList ≠ []) := by
  unfold rightV at h
  split at h
  · rename_i hk
    rw [Bool.and_eq_true, Bool.and_eq_true, Bool.not_eq_true'] at h
    exact .inl ⟨hk, (num_is h.1).1, (num_is h.1).2, fname_is h.2.1, empty_yes h.2.2⟩
  · split at h
    · rename_i hk
      rw [Bool.and_eq_true, Bool.and_eq_true] at h
      exact .inr (.inl ⟨hk, (num_is h.1).1, (num_is h.1).2, (bare_is h.2.1).1, (bare_is h.2.1).2, h.2.2⟩)
    · split at h
      · rename_i hk
        rw [Bool.and_eq_true, Bool.and_eq_true] at h
        exact .inr (.inr (.inl ⟨hk, (num_is h.1).1, (num_is h.1).2, (bare_is h.2.1).1, (bare_is h.2.1).2, empty_yes h.2.2⟩))
      · split at h
        · rename_i hk
          rw [Bool.and_eq_true, Bool.and_eq_true, decide_eq_true_eq, Bool.not_eq_true'] at h
          exact .inr (.inr (.inr ⟨hk, h.1, (bare_is h.2.1).1, (bare_is h.2.1).2, empty_no h.2.2⟩))
        · cases h
/-- The outputs' first words. -/
def wordsT : List ByteArray := [bs [99, 108, 105, 101, 110, 116], bs [99, 111, 110, 110], bs [100, 105, 97, 108], bs [100, 114, 111, 112], bs [101, 110, 100], bs [116, 111, 108, 100], bs [110, 111, 116, 101]]
def wordT (k : Int) : List UInt8 := (wordsT.getD k.toNat e0).data.toList
/-- An output's line. -/
def lineL (o : OutV) : List UInt8 :=
  if o.k = 5 ∨ o.k = 6 then wordT o.k ++ 32 :: escL o.text.data.toList
  else if o.k = 2 then wordT o.k ++ 32 :: (Lib.itoa o.id ++ 32 :: o.text.data.toList)
  else if o.k = 3 ∨ o.k = 4 then wordT o.k ++ 32 :: Lib.itoa o.id
  else if o.data.data.toList = [] then wordT o.k ++ 32 :: (Lib.itoa o.id ++ 32 :: (fnameV o.fk).data.toList)
  else wordT o.k ++ 32 :: (Lib.itoa o.id ++ 32 :: ((fnameV o.fk).data.toList ++ 32 :: escL o.data.data.toList))
def lineV (o : OutV) : ByteArray × Int := if rightV o = true then (bs (lineL o), 0) else (e0, 1)
/-- A text ahead of its first blank, and behind it. -/
def cut1 (l : List UInt8) : List UInt8 × List UInt8 := (l.takeWhile (· != 32), (l.dropWhile (· != 32)).drop 1)
theorem cut_blank : ∀ {a : List UInt8} (b : List UInt8), (32 : UInt8) ∉ a → cut1 (a ++ 32 :: b) = (a, b)
  | [], b, _ => by simp [cut1]
  | x :: r, b, h => by
    have hx : (x != 32) = true := by rw [bne_iff_ne]; intro e; exact h (by simp [e])
    have ih := cut_blank (a := r) b (fun hm => h (by simp [hm]))
    unfold cut1 at ih ⊢
    injection ih with h1 h2
    simp only [List.cons_append, List.takeWhile_cons, List.dropWhile_cons, hx, if_true]
    rw [h1, h2]
theorem cut_none : ∀ {a : List UInt8}, (32 : UInt8) ∉ a → cut1 a = (a, [])
  | [], _ => rfl
  | x :: r, h => by
    have hx : (x != 32) = true := by rw [bne_iff_ne]; intro e; exact h (by simp [e])
    have ih := cut_none (a := r) (fun hm => h (by simp [hm]))
    unfold cut1 at ih ⊢
    injection ih with h1 h2
    simp only [List.takeWhile_cons, List.dropWhile_cons, hx, if_true]
    rw [h1, h2]
def idxT (x : List UInt8) : Int := Lib.idxOfS wordsT (bs x)
/-- The kind of a frame's name; 0: there is none. -/
def kindT (x : List UInt8) : Int :=
  if (fnameV 1).data.toList = x then 1 else if (fnameV 2).data.toList = x then 2 else if (fnameV 3).data.toList = x then 3 else if (fnameV 4).data.toList = x then 4
  else if (fnameV 5).data.toList = x then 5 else if (fnameV 6).data.toList = x then 6 else if (fnameV 7).data.toList = x then 7 else if (fnameV 8).data.toList = x then 8 else 0
def unescD (l : List UInt8) : ByteArray := bs ((unescL l).getD [])
/-- What is read of a line, ahead of its being written again; of numbers, just those that may be are told. -/
structure Cand (l : List UInt8) (o : OutV) : Prop where
  k : o.k = idxT (cut1 l).1
  num : o.k ≠ 5 ∧ o.k ≠ 6 → ∀ v : Int, 0 < v → v ≤ 999999999 → (cut1 (cut1 l).2).1 = Lib.itoa v → o.id = v
  say : o.k = 5 ∨ o.k = 6 → o.id = 0 ∧ o.text = unescD (cut1 l).2
  bare : o.k ≠ 0 ∧ o.k ≠ 1 → o.fk = 0 ∧ o.data = e0
  dial : o.k = 2 → o.text = bs (cut1 (cut1 l).2).2
  frame : o.k = 0 ∨ o.k = 1 → o.fk = kindT (cut1 (cut1 (cut1 l).2).2).1 ∧ o.data = unescD (cut1 (cut1 (cut1 l).2).2).2
  text : o.k ≠ 5 ∧ o.k ≠ 6 ∧ o.k ≠ 2 → o.text = e0
theorem word_facts : ∀ i : Fin 7, (32 : UInt8) ∉ wordT (i.val : Int) ∧ idxT (wordT (i.val : Int)) = (i.val : Int) := by decide +kernel
theorem word_at {k : Int} (h0 : 0 ≤ k) (h6 : k ≤ 6) : (32 : UInt8) ∉ wordT k ∧ idxT (wordT k) = k := by
  obtain ⟨n, rfl⟩ := Int.eq_ofNat_of_zero_le h0
  exact word_facts ⟨n, by omega⟩
theorem kind_facts : ∀ i : Fin 8, (32 : UInt8) ∉ (fnameV ((i.val : Int) + 1)).data.toList ∧ kindT (fnameV ((i.val : Int) + 1)).data.toList = (i.val : Int) + 1 := by decide +kernel
theorem kind_at {k : Int} (h0 : 1 ≤ k) (h8 : k ≤ 8) : (32 : UInt8) ∉ (fnameV k).data.toList ∧ kindT (fnameV k).data.toList = k := by
  obtain ⟨n, hn⟩ := Int.eq_ofNat_of_zero_le (show 0 ≤ k - 1 by omega)
  have := kind_facts ⟨n, by omega⟩
  simp only at this
  rw [show (n : Int) + 1 = k by omega] at this
  exact this
theorem itoa_blank (x : Int) : (32 : UInt8) ∉ Lib.itoa x := by
  unfold Lib.itoa
  split
  · intro h
    rcases List.mem_cons.1 h with h | h
    · cases h
    · exact (isD_ne (decDigits_all _ _ h)).2.2.1 rfl
  · intro h
    exact (isD_ne (decDigits_all _ _ h)).2.2.1 rfl
theorem unescD_esc (s : ByteArray) : unescD (escL s.data.toList) = s := by
  unfold unescD
  rw [unesc_esc]
  exact of_bs s
theorem unescD_nil : unescD [] = e0 := rfl
/-- What is read of the line of an output that may be is that output. -/
theorem cand_line {o p : OutV} (h : rightV o = true) (hc : Cand (lineL o) p) : p = o := by
  obtain ⟨ck, cn, cs, cb, cd, cf, ct⟩ := hc
  obtain ⟨ok, oi, of, od, ot⟩ := o
  obtain ⟨pk, pi, pf, pd, pt⟩ := p
  simp only at ck cn cs cb cd cf ct
  rcases right_cases h with ⟨hk, h1, h2, h3, h4⟩ | ⟨hk, h1, h2, h3, h4, h5⟩ | ⟨hk, h1, h2, h3, h4, h5⟩ | ⟨hk, h1, h3, h4, h5⟩
  · simp only at hk h1 h2 h3 h4
    subst h4
    have hw := word_at (k := ok) (by omega) (by omega)
    have hkd := kind_at h3.1 h3.2
    by_cases hd : od.data.toList = []
    · have hod : od = e0 := by cases od with | mk d => exact congrArg ByteArray.mk (Array.toList_inj.1 hd)
      have hl : lineL ⟨ok, oi, of, od, e0⟩ = wordT ok ++ 32 :: (Lib.itoa oi ++ 32 :: (fnameV of).data.toList) := by
        unfold lineL
        rw [if_neg (by simp only; omega), if_neg (by simp only; omega), if_neg (by simp only; omega), if_pos hd]
      rw [hl, cut_blank _ hw.1] at ck cn cs cd cf
      simp only at ck cn cs cd cf
      rw [hw.2] at ck
      subst ck
      rw [cut_blank _ (itoa_blank oi)] at cn cd cf
      simp only at cn cd cf
      rw [cut_none hkd.1] at cf
      simp only at cf
      obtain ⟨f1, f2⟩ := cf hk
      rw [hkd.2] at f1
      rw [unescD_nil] at f2
      rw [cn (by omega) oi h1 h2 rfl, f1, f2, ct (by omega), hod]
    · have hl : lineL ⟨ok, oi, of, od, e0⟩ = wordT ok ++ 32 :: (Lib.itoa oi ++ 32 :: ((fnameV of).data.toList ++ 32 :: escL od.data.toList)) := by
        unfold lineL
        rw [if_neg (by simp only; omega), if_neg (by simp only; omega), if_neg (by simp only; omega), if_neg hd]
      rw [hl, cut_blank _ hw.1] at ck cn cs cd cf
      simp only at ck cn cs cd cf
      rw [hw.2] at ck
      subst ck
      rw [cut_blank _ (itoa_blank oi)] at cn cd cf
      simp only at cn cd cf
      rw [cut_blank _ hkd.1] at cf
      simp only at cf
      obtain ⟨f1, f2⟩ := cf hk
      rw [hkd.2] at f1
      rw [unescD_esc] at f2
      rw [cn (by omega) oi h1 h2 rfl, f1, f2, ct (by omega)]
  · simp only at hk h1 h2 h3 h4 h5
    subst hk h3 h4
    have hw := word_at (k := 2) (by omega) (by omega)
    have hl : lineL ⟨2, oi, 0, e0, ot⟩ = wordT 2 ++ 32 :: (Lib.itoa oi ++ 32 :: ot.data.toList) := rfl
    rw [hl, cut_blank _ hw.1] at ck cn cs cd cf
    simp only at ck cn cs cd cf
    rw [hw.2] at ck
    subst ck
    rw [cut_blank _ (itoa_blank oi)] at cn cd cf
    simp only at cn cd cf
    obtain ⟨b1, b2⟩ := cb (by omega)
    rw [cn (by omega) oi h1 h2 rfl, b1, b2, cd (by first | rfl | trivial), of_bs]
  · simp only at hk h1 h2 h3 h4 h5
    subst h3 h4 h5
    have hw := word_at (k := ok) (by omega) (by omega)
    have hl : lineL ⟨ok, oi, 0, e0, e0⟩ = wordT ok ++ 32 :: Lib.itoa oi := by
      unfold lineL
      rw [if_neg (by simp only; omega), if_neg (by simp only; omega), if_pos hk]
    rw [hl, cut_blank _ hw.1] at ck cn cs cd cf
    simp only at ck cn cs cd cf
    rw [hw.2] at ck
    subst ck
    rw [cut_none (itoa_blank oi)] at cn cd cf
    simp only at cn cd cf
    obtain ⟨b1, b2⟩ := cb (by omega)
    rw [cn (by omega) oi h1 h2 rfl, b1, b2, ct (by omega)]
  · simp only at hk h1 h3 h4 h5
    subst h1 h3 h4
    have hw := word_at (k := ok) (by omega) (by omega)
    have hl : lineL ⟨ok, 0, 0, e0, ot⟩ = wordT ok ++ 32 :: escL ot.data.toList := by
      unfold lineL
      rw [if_pos hk]
    rw [hl, cut_blank _ hw.1] at ck cn cs cd cf
    simp only at ck cn cs cd cf
    rw [hw.2] at ck
    subst ck
    obtain ⟨b1, b2⟩ := cb (by omega)
    obtain ⟨s1, s2⟩ := cs hk
    rw [s1, b1, b2, s2, unescD_esc]
/-- The output of a line, as it is if it is one's, else none. -/
def IsLine (l : List UInt8) (o : OutV) : Prop := rightV o = true ∧ lineL o = l
theorem line_one {l : List UInt8} {o q : OutV} (hc : Cand l q) (ho : IsLine l o) : q = o := by
  obtain ⟨h1, h2⟩ := ho
  subst h2
  exact cand_line h1 hc
/-- Two candidates of one line come to the same. -/
theorem cand_same {l : List UInt8} {p q : OutV} (hp : Cand l p) (hq : Cand l q) : (IsLine l p ↔ IsLine l q) ∧ (IsLine l p → p = q) := by
  have h1 : IsLine l p → p = q := fun h => (line_one hq h).symm
  have h2 : IsLine l q → q = p := fun h => (line_one hp h).symm
  exact ⟨⟨fun h => h1 h ▸ h, fun h => h2 h ▸ h⟩, h1⟩
theorem line_inj {o p : OutV} (hp : rightV p = true) (hc : Cand (lineL o) o) (h : lineL o = lineL p) : o = p := by
  rw [h] at hc
  exact cand_line hp hc
theorem lineV_is {o : OutV} {l : ByteArray} : lineV o = (l, 0) ↔ IsLine l.data.toList o := by
  unfold lineV IsLine
  constructor
  · intro h
    split at h
    · rename_i hr
      injection h with h1 _
      exact ⟨hr, by rw [← h1, bs_list]⟩
    · injection h with _ h2
      cases h2
  · rintro ⟨hr, h⟩
    rw [if_pos hr, h, of_bs]
/-- The answer for a line of which o was read. -/
def parseA (l : ByteArray) (o : OutV) : OutV × Int := if (lineV o).2 = 0 ∧ (lineV o).1 = l then (o, 0) else (zeroO, 2)
theorem parseA_same {l : ByteArray} {p q : OutV} (hp : Cand l.data.toList p) (hq : Cand l.data.toList q) : parseA l p = parseA l q := by
  obtain ⟨h1, h2⟩ := cand_same hp hq
  have hiff : ∀ o, ((lineV o).2 = 0 ∧ (lineV o).1 = l) ↔ IsLine l.data.toList o := fun o => by
    rw [← lineV_is]
    constructor
    · rintro ⟨a, b⟩; exact Prod.ext b a
    · intro h; rw [h]; exact ⟨rfl, rfl⟩
  unfold parseA
  by_cases h : IsLine l.data.toList p
  · rw [if_pos ((hiff p).2 h), if_pos ((hiff q).2 (h1.1 h)), h2 h]
  · rw [if_neg (fun e => h ((hiff p).1 e)), if_neg (fun e => h (h1.2 ((hiff q).1 e)))]
theorem parseA_line {o q : OutV} (ho : rightV o = true) (hc : Cand (lineL o) q) : parseA (bs (lineL o)) q = (o, 0) := by
  have := cand_line ho hc
  subst this
  unfold parseA
  have hl : lineV q = (bs (lineL q), 0) := by unfold lineV; rw [if_pos ho]
  rw [hl, if_pos ⟨rfl, rfl⟩]
theorem parseA_back {l : ByteArray} {o : OutV} (h : (parseA l o).2 = 0) : parseA l o = (o, 0) ∧ lineV o = (l, 0) := by
  unfold parseA at h ⊢
  split at h
  · rename_i hh
    rw [if_pos hh]
    exact ⟨rfl, Prod.ext hh.2 hh.1⟩
  · cases h
/-- No newline in a line. -/
theorem line_sign {o : OutV} (h : rightV o = true) {x : UInt8} (hx : x ∈ lineL o) : x ≠ 10 := by
  have hw : ∀ i : Fin 7, (10 : UInt8) ∉ wordT (i.val : Int) := by decide +kernel
  have hwk : ∀ k : Int, 0 ≤ k → k ≤ 6 → (10 : UInt8) ∉ wordT k := fun k h0 h6 => by
    obtain ⟨n, rfl⟩ := Int.eq_ofNat_of_zero_le h0
    exact hw ⟨n, by omega⟩
  have hf : ∀ i : Fin 8, (10 : UInt8) ∉ (fnameV ((i.val : Int) + 1)).data.toList := by decide +kernel
  have hfk : ∀ k : Int, 1 ≤ k → k ≤ 8 → (10 : UInt8) ∉ (fnameV k).data.toList := fun k h0 h8 => by
    obtain ⟨n, hn⟩ := Int.eq_ofNat_of_zero_le (show 0 ≤ k - 1 by omega)
    have := hf ⟨n, by omega⟩
    simp only at this
    rw [show (n : Int) + 1 = k by omega] at this
    exact this
  have hi : ∀ v : Int, (10 : UInt8) ∉ Lib.itoa v := fun v => by
    unfold Lib.itoa
    split
    · intro h
      rcases List.mem_cons.1 h with h | h
      · cases h
      · have := decDigits_all _ _ h; exact absurd this (by decide)
    · intro h
      have := decDigits_all _ _ h; exact absurd this (by decide)
  have he : ∀ l : List UInt8, (10 : UInt8) ∉ escL l := fun l hm => by have := (escL_sign hm).1; exact absurd this (by decide)
  have hn : ∀ s : ByteArray, nameB s = true → (10 : UInt8) ∉ s.data.toList := fun s hs hm => by
    unfold nameB at hs
    rw [Bool.and_eq_true] at hs
    have := List.all_eq_true.1 hs.2 10 hm
    exact absurd this (by decide)
  rintro rfl
  rcases right_cases h with ⟨hk, h1, h2, h3, h4⟩ | ⟨hk, h1, h2, h3, h4, h5⟩ | ⟨hk, h1, h2, h3, h4, h5⟩ | ⟨hk, h1, h3, h4, h5⟩
  all_goals
    unfold lineL at hx
    have hwk' := hwk o.k (by omega) (by omega)
  · rw [if_neg (by omega), if_neg (by omega), if_neg (by omega)] at hx
    have hf' := hfk o.fk h3.1 h3.2
    have hi' := hi o.id
    have he' := he o.data.data.toList
    split at hx <;> simp [hwk', hf', hi', he'] at hx
  · rw [if_neg (by omega), if_pos hk] at hx
    have hi' := hi o.id
    have hn' := hn o.text h5
    simp [hwk', hi', hn'] at hx
  · rw [if_neg (by omega), if_neg (by omega), if_pos hk] at hx
    have hi' := hi o.id
    simp [hwk', hi'] at hx
  · rw [if_pos hk] at hx
    have he' := he o.text.data.toList
    simp [hwk', he'] at hx
end Go.Proofs.YthalpaggcdpcbaaDoor.Tr
