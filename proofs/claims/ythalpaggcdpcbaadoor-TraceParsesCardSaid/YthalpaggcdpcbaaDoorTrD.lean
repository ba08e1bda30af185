/- The reference's Unescape. -/
import Derived.Test.YthalpaggcdpcbaaDoorTrC
import Derived.Deep.RegionHeld3
namespace Go.Proofs.YthalpaggcdpcbaaDoor.Tr
open Go.RowKit Go.Proofs.YthalpaggcdpcbaaDoor Go.Proofs.YthalpaggcdpcbaaDoor.Nm Go.Proofs.YthalpaggcdpcbaaDoor.Cf
theorem list_at (s : ByteArray) (j : Nat) (hj : j < s.size) : s.data.toList.drop j = s[j] :: s.data.toList.drop (j + 1) := by
  have hlt : j < s.data.toList.length := by simpa using hj
  exact List.drop_eq_getElem_cons hlt
theorem sl_capU {w : World} {A : Option Addr} {n c m : Nat} {xs : List Value} (h : Sl w 5 1 (.slice A n c) m xs) : n ≤ c := by
  obtain ⟨A3, c3, e, h1, _⟩ := h.slice
  cases e
  exact h1
theorem byte_run (s : ByteArray) (j : Nat) (hj : j < s.size) (W : World) : (Instr.index 9 (.string s) (.int .i64 (j : Int))).run Tryd.prog W = .ok (.int .u8 ((s[j]'hj).toNat : Int)) W := by
  rw [run_index_string W 9 s .i64 j Tryd.underlying9, dif_pos ⟨by omega, by omega⟩]
  simp
theorem byte_of (h l : UInt8) (hh : 0 ≤ digI h) (hl : 0 ≤ digI l) : ((byteOf h l).toNat : Int) = 16 * digI h + digI l ∧ digI h ≤ 15 ∧ digI l ≤ 15 := by
  have key : ∀ c : UInt8, digI c ≤ 15 := fun c => by
    unfold digI
    split
    · omega
    · split <;> omega
  have h1 := key h
  have h2 := key l
  refine ⟨?_, h1, h2⟩
  unfold byteOf
  rw [← digI_hex h, ← digI_hex l, UInt8.toNat_ofNat']
  omega
/-- How far the reading has come. -/
def UnAt (s : ByteArray) (j : Nat) (o : List UInt8) : Prop := rawL s.data.toList = (rawL (s.data.toList.drop j)).map (o ++ ·)
theorem un_plain {s : ByteArray} {j : Nat} {o : List UInt8} (hj : j < s.size) (h : UnAt s j o) (hx : s[j] ≠ 92) : UnAt s (j + 1) (o ++ [s[j]]) := by
  unfold UnAt at h ⊢
  rw [h, list_at s j hj, raw_plain hx]
  cases rawL (s.data.toList.drop (j + 1)) with
  | none => rfl
  | some x => simp
theorem un_three {s : ByteArray} {j : Nat} {o : List UInt8} (hj : j + 2 < s.size) (h : UnAt s j o) (hx : s[j]'(by omega) = 92) (h1 : 0 ≤ digI (s[j + 1]'(by omega))) (h2 : 0 ≤ digI s[j + 2]) : UnAt s (j + 2 + 1) (o ++ [byteOf (s[j + 1]'(by omega)) s[j + 2]]) := by
  unfold UnAt at h ⊢
  rw [h, list_at s j (by omega), list_at s (j + 1) (by omega), list_at s (j + 2) hj, hx, raw_three _ h1 h2]
  cases rawL (s.data.toList.drop (j + 2 + 1)) with
  | none => rfl
  | some x => simp
theorem un_bad {s : ByteArray} {j : Nat} {o : List UInt8} (hj : j + 2 < s.size) (h : UnAt s j o) (hx : s[j]'(by omega) = 92) (hn : ¬ (0 ≤ digI (s[j + 1]'(by omega)) ∧ 0 ≤ digI s[j + 2])) : rawL s.data.toList = none := by
  unfold UnAt at h
  rw [h, list_at s j (by omega), list_at s (j + 1) (by omega), list_at s (j + 2) hj, hx, raw_bad _ hn]
  rfl
theorem un_short {s : ByteArray} {j : Nat} {o : List UInt8} (hj : j < s.size) (hs : s.size ≤ j + 2) (h : UnAt s j o) (hx : s[j] = 92) : rawL s.data.toList = none := by
  unfold UnAt at h
  rw [h, list_at s j hj, hx, raw_short (by rw [List.length_drop]; have : s.data.toList.length = s.size := by simp
                                           omega)]
  rfl
theorem un_none {s : ByteArray} (h : rawL s.data.toList = none) : unescV s = (⟨#[]⟩, 2) := by
  apply unescV_none
  rw [← ref_unesc, h]
  rfl
theorem un_end {s : ByteArray} {o : List UInt8} (h : UnAt s s.size o) : (escL o = s.data.toList → unescV s = (bs o, 0)) ∧ (escL o ≠ s.data.toList → unescV s = (⟨#[]⟩, 2)) := by
  have h1 : rawL s.data.toList = some o := by
    unfold UnAt at h
    rw [h, List.drop_of_length_le (by simp)]
    simp [rawL]
  constructor
  · intro he
    apply unescV_some
    rw [← ref_unesc, h1]
    show (if escL o = s.data.toList then some o else none) = _
    rw [if_pos he]
  · intro he
    apply unescV_none
    rw [← ref_unesc, h1]
    show (if escL o = s.data.toList then some o else none) = _
    rw [if_neg he]
theorem lies_newU {w w0 : World} {v v' : Value} (h : Lies w v v') (hv : ∀ g, v.ownBlock = some g → w0.heap.size ≤ g) (hs : w0.heap.size ≤ w.heap.size) : ∀ g, v'.ownBlock = some g → w0.heap.size ≤ g := fun g hg => by
  rcases h with h | ⟨g', h, h2⟩
  · exact hv g (h.symm.trans hg)
  · rw [hg] at h
    cases h
    omega
end Go.Proofs.YthalpaggcdpcbaaDoor.Tr
