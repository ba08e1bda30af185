/- strings.ContainsRune over a short text of ASCII bytes, at every rune: whether the rune is one of its bytes. -/
import Derived.Test.YtghjhcobmbobcaaSh
import Derived.Lib.Hide
import Derived.Laws.Runes
import Derived.Lib.SliceRun
import Derived.Deep.QuietTactic
import Derived.BigQuiet
import Derived.Below
import Derived.Deep.LoopGhost
import Derived.IntWalk
import Derived.WalkMore
namespace Go.Proofs.Ytghjhcobmbobcaa
open Go.RowKit

theorem rn_quiet_add {P : Program} {f : FuncId} {args : Array Value} {w : World} {a n : Nat} {v : Value} (h : ∀ W, Calls P f args W fun e w' => e = .returned v ∧ w' = W) :
    Calls P f args (w.drewN (a + n)) fun e w'' => e = .returned v ∧ ∃ m, w'' = w.drewN (a + m) := (h _).mono fun _ _ ⟨he, hm⟩ => ⟨he, n, hm⟩

theorem rn_indexByte_none (c : UInt8) : ∀ (l : List UInt8), (∀ b ∈ l, b ≠ c) → Lib.indexByte l c = -1
  | [], _ => rfl
  | b :: l, h => by
    have h1 : (b == c) = false := by simpa using h b (by simp)
    have h2 := rn_indexByte_none c l (fun x hx => h x (by simp [hx]))
    simp [Lib.indexByte, h1, h2]

theorem rn_decode_ascii (s : ByteArray) (pos : Nat) (h : pos < s.size) (ha : ∀ b ∈ s.data.toList, b.toNat < 128) : (Utf8.decode s pos).1 < 128 ∧ (Utf8.decode s pos).2 = 1 := by
  have hb : (s.get! pos).toNat < 128 := by
    have : s.get! pos ∈ s.data.toList := by
      have e : s.get! pos = s.data[pos]'h := getElem!_pos s.data pos h
      rw [e]; exact Array.getElem_mem_toList (xs := s.data) h
    exact ha _ this
  unfold Utf8.decode
  simp [hb]

set_option maxHeartbeats 2000000 in
set_option maxRecDepth 1000000 in
theorem rn_bad (s : ByteArray) (ha : ∀ b ∈ s.data.toList, b.toNat < 128) (w : World) :
    Calls Try.prog 50 #[.string s, .int .i32 65533] w fun e w' => e = .returned (.int .i64 (-1)) ∧ Below w.heap.size w w' := by
  go_enter Try.func50, Try.ntmps50
  go_wp2
  go_loopg [] s.size (fun gf wx => ∃ pos : Nat, wx.heap[w.heap.size]? = some (.stringIter s pos) ∧ Below w.heap.size w wx ∧ s.size ≤ pos + gf)
  case atStart => exact ⟨0, World.iter_heap w s 0, (Below.refl _ w).alloc (Nat.le_refl _) _, by omega⟩
  case round =>
    obtain ⟨pos, hit, hbw, hfu⟩ := hrel
    by_cases hps : pos < s.size
    · obtain ⟨g', rfl⟩ : ∃ g', gk = g' + 1 := ⟨gk - 1, by omega⟩
      have hnx : ∀ ty, (Instr.next (.pointer (some ⟨w.heap.size, 0, none⟩)) true ty).run Try.prog wr = _ := fun ty => Lib.run_next_any_at wr w.heap.size s pos ty hit hps
      obtain ⟨hlt, hK⟩ := rn_decode_ascii s pos hps ha
      obtain ⟨R, hR⟩ : ∃ R, (Utf8.decode s pos).1 = R := ⟨_, rfl⟩
      rw [hK, hR] at hnx
      rw [hR] at hlt
      have hit2 := Lib.iterAt_heap wr w.heap.size s pos (pos + 1) hit
      have hbw2 := Lib.below_iterAt hbw (k := w.heap.size) (Nat.le_refl _) s (pos + 1)
      obtain ⟨W, hWd⟩ : ∃ W, wr.iterAt w.heap.size s (pos + 1) = W := ⟨_, rfl⟩
      rw [hWd] at hnx hit2 hbw2
      have hne : ((R : Int) == 65533) = false := by rw [beq_eq_false_iff_ne]; omega
      clear hR hK hWd
      go_wp2
      go_roundg g'
      case measure => omega
      case rel => exact ⟨pos + 1, hit2, hbw2, by omega⟩
    · have hnx : ∀ ty, (Instr.next (.pointer (some ⟨w.heap.size, 0, none⟩)) true ty).run Try.prog wr = _ := fun ty => Lib.run_next_end_at wr w.heap.size s pos ty hit hps
      go_wp2
      go_ret
      exact ⟨rfl, hbw⟩

set_option maxHeartbeats 2000000 in
set_option maxRecDepth 1000000 in
theorem rn_invalid (s : ByteArray) (r : Int) (h128 : 128 ≤ r) (hne : (r == 65533) = false) (hv : Lib.validRune r = false) (w : World) :
    Calls Try.prog 50 #[.string s, .int .i32 r] w fun e w' => e = .returned (.int .i64 (-1)) ∧ Below w.heap.size w w' := by
  have hlt : decide (r < 128) = false := by simp; omega
  have h0 : 0 ≤ r := by omega
  go_enter Try.func50, Try.ntmps50
  go_wp2_with (go_at_call 64; refine (Try.utf8_ValidRune _ _).mono ?_; rintro e w' ⟨rfl, rfl⟩; simp only [hv])
  go_ret
  exact ⟨rfl, Below.refl _ _⟩

set_option maxHeartbeats 2000000 in
set_option maxRecDepth 1000000 in
theorem rn_valid (s : ByteArray) (r : Int) (h128 : 128 ≤ r) (hne : (r == 65533) = false) (hv : Lib.validRune r = true) (ha : ∀ b ∈ s.data.toList, b.toNat < 128) (h4 : 4 ≤ s.size) (hm : s.size ≤ 1000) (w : World) :
    Calls Try.prog 50 #[.string s, .int .i32 r] w fun e w' => e = .returned (.int .i64 (-1)) ∧ Below w.heap.size w w' := by
  have hlt : decide (r < 128) = false := by simp; omega
  have h0 : 0 ≤ r := by omega
  obtain ⟨e2, e4, el⟩ := encode_facts r (by rw [validRune_eq]; exact hv) h128
  obtain ⟨t, ht⟩ : ∃ t, Utf8.encode r = t := ⟨_, rfl⟩
  rw [ht] at e2 e4 el
  have HT := Lib.hid ht
  obtain ⟨n, hn⟩ : ∃ n : Nat, t.size = n + 1 := ⟨t.size - 1, by omega⟩
  have b3 : n < s.size := by omega
  have b4 : n < t.size := by omega
  obtain ⟨x, hx⟩ : ∃ x : UInt8, s[n]'b3 = x := ⟨_, rfl⟩
  obtain ⟨y, hy⟩ : ∃ y : UInt8, t[n]'b4 = y := ⟨_, rfl⟩
  have hx1 : x.toNat < 128 := ha _ (by rw [← hx]; exact Array.getElem_mem_toList (xs := s.data) b3)
  have hy1 : 128 ≤ y.toNat := by
    have := el (by omega)
    have e : t.size - 1 = n := by omega
    simp only [e, hy] at this
    exact this
  have i1 : ∀ W, (Instr.index 9 (.string s) (.int .i64 (n : Int))).run Try.prog W = .ok (.int .u8 (x.toNat : Int)) W := fun W => by
    rw [run_index_string W 9 s .i64 n Try.underlying9, dif_pos ⟨by omega, by omega⟩]
    simp [hx]
  have i2 : ∀ W, (Instr.index 9 (.string t) (.int .i64 (n : Int))).run Try.prog W = .ok (.int .u8 (y.toNat : Int)) W := fun W => by
    rw [run_index_string W 9 t .i64 n Try.underlying9, dif_pos ⟨by omega, by omega⟩]
    simp [hy]
  have hxy : ((x.toNat : Int) == (y.toNat : Int)) = false := by rw [beq_eq_false_iff_ne]; omega
  have hxy2 : ((x.toNat : Int) != (y.toNat : Int)) = true := by rw [bne_iff_ne]; omega
  have hnone : Lib.indexByte (s.extract (n + 1) s.size).data.toList y = -1 := rn_indexByte_none y _ (fun b hb e => by have := ha b (mem_extract hb); rw [e] at this; omega)
  have h1 : (n : Int) + 1 ≤ s.size := by omega
  have isl : ∀ W, (Instr.slice 9 (.string s) (some (.int .i64 ((n : Int) + 1))) none none).run Try.prog W = .ok (.string (s.extract (n + 1) s.size)) W := fun W => by
    have e : ((n : Int) + 1).toNat = n + 1 := by omega
    rw [run_slice_string_l (w := W) (ht := Try.underlying9) (kl := .i64) (l := (n : Int) + 1) (h0 := by omega) (h1 := h1), e]
  have hnl : decide ((n : Int) < (s.size : Int)) = true := by simp; omega
  have hib : ∀ W, Calls Try.prog 63 #[.string (s.extract (n + 1) s.size), .int .u8 (y.toNat : Int)] W fun e w' => e = .returned (.int .i64 (-1)) ∧ w' = W := fun W => (Try.strings_IndexByte _ _ _).mono fun e w' ⟨he, hw⟩ => ⟨by rw [he, Int.toNat_natCast, show y.toNat.toUInt8 = y from UInt8.ofNat_toNat, hnone], hw⟩
  have hwr : IntKind.i64.wrap ((n : Int) + 1) = (n : Int) + 1 := IntWalk.i64_in _ (by omega)
  have h01 : 0 ≤ (n : Int) + 1 := by omega
  clear hx hy el ha hnone
  have HIB := Lib.hid hib
  clear hib
  go_enter Try.func50, Try.ntmps50
  go_wp2_with (go_at_call 64; refine (Try.utf8_ValidRune _ _).mono ?_; rintro e w' ⟨rfl, rfl⟩; simp only [hv])
  go_step3
  go_wp2
  refine wp_loop_rounds 1 ?_
  rw [rounds_succ]
  go_wp2
  go_step3
  go_wp2
  go_quiet (fail)
  go_wp2
  go_quiet ((go_at_call 63; exact rn_quiet_add HIB.out))
  clear hwr
  go_wp2
  rw [Exit.noGoto_ret]
  go_simp
  go_ret
  exact ⟨rfl, by repeat (first | exact Below.refl _ _ | exact below_drewN' (Below.refl _ _) _ | refine below_drewN' ?_ _)⟩

/-- The signs of a name, as a text. -/
def signText : ByteArray := ⟨#[97, 98, 99, 100, 101, 102, 103, 104, 105, 106, 107, 108, 109, 110, 111, 112, 113, 114, 115, 116, 117, 118, 119, 120, 121, 122, 48, 49, 50, 51, 52, 53, 54, 55, 56, 57, 46, 45]⟩
/-- Is a rune one of them? -/
def isSign (r : Nat) : Bool := (97 ≤ r && r ≤ 122) || (48 ≤ r && r ≤ 57) || r == 46 || r == 45
theorem sign_ascii : ∀ i : Fin 128, decide (0 ≤ Lib.indexByte signText.data.toList (UInt8.ofNat i.val)) = isSign i.val := by decide +kernel
theorem signText_ascii : ∀ b ∈ signText.data.toList, b.toNat < 128 := by decide +kernel

theorem rn_rune (r : Nat) (hr : r ≤ 1114111) (w : World) :
    Calls Try.prog 46 #[.string signText, .int .i32 (r : Int)] w fun e w' => e = .returned (.bool (isSign r)) ∧ Below w.heap.size w w' := by
  by_cases h : r < 128
  · refine (Try.strings_ContainsRune_ascii signText (r : Int) w (by omega) (by omega)).mono fun e w' ⟨he, hw⟩ => ⟨?_, hw ▸ Below.refl _ _⟩
    rw [he, Int.toNat_natCast]
    have := sign_ascii ⟨r, h⟩
    simp only at this
    rw [← this]
  · have hno : isSign r = false := by unfold isSign; simp; omega
    have hc : Calls Try.prog 50 #[.string signText, .int .i32 (r : Int)] w fun e w' => e = .returned (.int .i64 (-1)) ∧ Below w.heap.size w w' := by
      by_cases hb : (r : Int) = 65533
      · rw [hb]; exact rn_bad _ signText_ascii w
      · have hne : ((r : Int) == 65533) = false := beq_eq_false_iff_ne.2 hb
        cases hv : Lib.validRune (r : Int) with
        | false => exact rn_invalid _ _ (by omega) hne hv w
        | true => exact rn_valid _ _ (by omega) hne hv signText_ascii (by decide) (by decide) w
    rw [hno]
    generalize signText = t at hc ⊢
    go_enter Try.func46, Try.ntmps46
    go_wp2_with (go_at_call 50; refine hc.mono ?_; rintro e w' ⟨rfl, hb⟩)
    go_ret
    exact ⟨rfl, hb⟩

theorem rn_pred (w : World) : PredGrows Try.prog 45 #[] (fun r => !isSign r) w := by
  intro W x hx _
  show Calls Try.prog 45 #[.int .i32 (x : Int)] W (fun e w' => e = .returned (.bool (!isSign x)) ∧ Below W.heap.size W w')
  have hc := rn_rune x hx W
  generalize isSign x = b at hc ⊢
  unfold signText at hc
  have HC := Lib.hid hc
  clear hc
  go_enter Try.func45, Try.ntmps45
  go_wp2_with (go_at_call 46; refine HC.out.mono ?_; rintro e w' ⟨rfl, hb⟩)
  go_ret
  exact ⟨rfl, hb⟩

/-! ### the plain side -/
theorem decode_high (s : ByteArray) (pos : Nat) (h : 128 ≤ (s.get! pos).toNat) : 128 ≤ (Utf8.decode s pos).1 := by
  rw [Lib.decode_at]
  generalize (s.get! pos).toNat = b0 at h ⊢
  generalize (s.get! (pos + 1)).toNat = b1
  generalize (s.get! (pos + 2)).toNat = b2
  generalize (s.get! (pos + 3)).toNat = b3
  unfold Lib.decodeN
  rw [if_neg (by omega)]
  repeat' split
  all_goals (simp only []; omega)
theorem decode_low (s : ByteArray) (pos : Nat) (h : (s.get! pos).toNat < 128) : Utf8.decode s pos = ((s.get! pos).toNat, 1) := by
  rw [Lib.decode_at]
  unfold Lib.decodeN
  rw [if_pos h]
theorem isSign_high {r : Nat} (h : 128 ≤ r) : isSign r = false := by unfold isSign; simp; omega

theorem idx_signs (s : ByteArray) : ∀ (f pos : Nat), pos ≤ s.size → s.size ≤ pos + f →
    decide (0 ≤ Lib.idxFuncFrom (fun r => !isSign r) true s f pos) = (s.data.toList.drop pos).any (fun b => !isSign b.toNat)
  | 0, pos, h1, h2 => by
    rw [List.drop_of_length_le (by rw [Array.length_toList]; exact h2)]
    rfl
  | f + 1, pos, h1, h2 => by
    unfold Lib.idxFuncFrom
    by_cases hp : pos < s.size
    · have hl : pos < s.data.toList.length := by rw [Array.length_toList]; exact hp
      have e0 : s.get! pos = s.data.toList[pos]'hl := by
        rw [show s.get! pos = s.data[pos]'hp from getElem!_pos s.data pos hp]
        simp
      rw [if_pos hp, List.drop_eq_getElem_cons hl, List.any_cons, ← e0]
      by_cases hlow : (s.get! pos).toNat < 128
      · rw [decode_low s pos hlow]
        simp only
        cases hs : isSign (s.get! pos).toNat with
        | true =>
          have ih := idx_signs s f (pos + 1) hp (by omega)
          simpa using ih
        | false => simp
      · have hh := decode_high s pos (by omega)
        rw [isSign_high hh, isSign_high (by omega : 128 ≤ (s.get! pos).toNat)]
        simp
    · rw [if_neg hp, List.drop_of_length_le (by rw [Array.length_toList]; show s.size ≤ pos; omega)]
      rfl

/-- May a name be? -/
def nameB (s : ByteArray) : Bool := decide (s.size ≠ 0) && decide (s.size ≤ 16) && s.data.toList.all (fun b => isSign b.toNat)

theorem nameB_yes {s : ByteArray} (h0 : s.size ≠ 0) (h1 : s.size ≤ 16) : nameB s = !decide (0 ≤ Lib.idxFunc (fun r => !isSign r) true s) := by
  have := idx_signs s s.size 0 (Nat.zero_le _) (by omega)
  unfold Lib.idxFunc
  rw [this, List.drop_zero]
  unfold nameB
  rw [List.not_any_eq_all_not, decide_eq_true h0, decide_eq_true h1]
  simp only [Bool.true_and, Bool.not_not]

theorem name_any (s : ByteArray) (hm : s.size ≤ 1000) (w : World) :
    Calls Try.prog 40 #[.string s] w fun e w' => e = .returned (.bool (nameB s)) ∧ Below w.heap.size w w' := by
  by_cases h0 : s.size = 0
  · obtain rfl : s = ⟨#[]⟩ := by cases s with | mk d => congr; exact Array.eq_empty_of_size_eq_zero h0
    have hf : nameB ⟨#[]⟩ = false := by decide +kernel
    rw [hf]
    go_enter Try.func40, Try.ntmps40
    go_wp2
    go_ret
    exact ⟨rfl, Below.refl _ _⟩
  · have hne : s.toList.isEmpty = false := by
      rw [ByteArray.toList_eq, List.isEmpty_eq_false_iff]
      intro e
      exact h0 (by rw [show s.size = s.data.toList.length from (Array.length_toList).symm, e]; rfl)
    by_cases h1 : s.size ≤ 16
    · have hN := nameB_yes h0 h1
      have hc := fun W => Try.strings_ContainsFunc_grows 45 #[] (enters_of Try.func45 (by kernel_rfl) rfl) (fun r => !isSign r) s W (rn_pred W)
      rw [hN]
      generalize decide (0 ≤ Lib.idxFunc (fun r => !isSign r) true s) = b at hc ⊢
      have HC := Lib.hid hc
      clear hc hN
      go_enter Try.func40, Try.ntmps40
      go_wp2_with (go_at_call 44; refine (HC.out _).mono ?_; rintro e w' ⟨rfl, hb⟩)
      go_ret
      exact ⟨rfl, hb⟩
    · have hf : nameB s = false := by unfold nameB; simp [h1]
      rw [hf]
      go_enter Try.func40, Try.ntmps40
      go_wp2
      go_ret
      exact ⟨rfl, Below.refl _ _⟩
end Go.Proofs.Ytghjhcobmbobcaa
