/- The admin's words (admin.Answer, hostlerref19.Answer), and the library's variables that they read. -/
import Derived.Test.YtogomkkglcddmaaDoorCrA
import Derived.Test.YtogomkkglcddmaaDoorCfD
namespace Go.Proofs.YtogomkkglcddmaaDoor.Nm
open Go.RowKit Go.Proofs.YtogomkkglcddmaaDoor Go.Proofs.YtogomkkglcddmaaDoor.Cf
/-- The library's variables that are read where no text is turned into a number. -/
structure VarsB (w : World) : Prop where
  most : ∃ m, w.cell? ⟨0, 0, none⟩ = some (.int .i64 m)
  tab : Lib.TabIs Tryd.prog w "internal/strconv.uint64pow10" .u64 Lib.pow10Tab
theorem VarsB.below {w w1 : World} (h : VarsB w) (hb : Below w.heap.size w w1) : VarsB w1 := by
  obtain ⟨⟨m, h1⟩, h4⟩ := h
  exact ⟨⟨m, (hb.cell (World.block_lt_of_cell? w _ h1)).trans h1⟩, Lib.tabBelow_of_tabIs h4 _ hb⟩
theorem itoaB_any (n : Int) (h : (Lit.int .i64 n).wf = true) (w : World) (hv : VarsB w) :
    Calls Tryd.prog 52 #[.int .i64 n] w fun e w' => e = .returned (.string (bs (Lib.itoa n))) ∧ Below w.heap.size w w' := by
  have h2 : -9223372036854775808 ≤ n ∧ n ≤ 9223372036854775807 := by simpa [Lit.wf, IntKind.min, IntKind.max, IntKind.signed, IntKind.bits] using h
  refine (Tryd.strconv_Itoa n h2.1 h2.2 w hv.tab).mono ?_
  rintro e w' ⟨rfl, k, os, rfl⟩
  exact ⟨rfl, Lib.below_grow _ _ (Nat.le_refl _) _ _⟩
theorem splitB_any (c : UInt8) (s : ByteArray) (hs : s.size ≤ 9999) (w : World) (hv : VarsB w) :
    Calls Tryd.prog 44 #[.string s, .string (Sp.one c)] w fun e w' => ∃ A cc, e = .returned (.slice A (cutV c s).length cc) ∧ (cutV c s).length ≤ cc ∧ StrsAt w' A (cutV c s) ∧ (∀ ad, A = some ad → w.heap.size ≤ ad.block) ∧ Below w.heap.size w w' := by
  obtain ⟨m, hm⟩ := hv.most
  refine (Tryd.strings_Split s (Sp.one c) m w (by omega) hm (Nat.le_refl _)).mono ?_
  rintro e w' ⟨rfl, rfl⟩
  rw [← cutV_len]
  exact ⟨_, _, rfl, Nat.le_refl _, StrsAt.new w _, fun ad h => by cases h; exact Nat.le_refl _, (Below.refl _ _).alloc (Nat.le_refl _) _⟩
end Go.Proofs.YtogomkkglcddmaaDoor.Nm
namespace Go.Proofs.YtogomkkglcddmaaDoor.Ad
open Go.RowKit Go.Proofs.YtogomkkglcddmaaDoor Go.Proofs.YtogomkkglcddmaaDoor.Nm Go.Proofs.YtogomkkglcddmaaDoor.Cf
/-- The errors' words. -/
def wordsL : List ByteArray := [bs [111, 107], bs [97, 114, 103], bs [102, 111, 114, 109], bs [98, 105, 103], bs [107, 105, 110, 100], bs [110, 111, 110, 101], bs [116, 104, 101, 114, 101], bs [102, 117, 108, 108], bs [115, 116, 97, 116, 101], bs [103, 117, 97, 114, 100], bs [99, 111, 110, 102, 105, 103], bs [110, 97, 109, 101], bs [108, 105, 110, 101], bs [108, 111, 110, 103]]
def inE (n : Int) : Bool := decide (0 ≤ n) && decide (n < 14)
def answerV (n : Int) : ByteArray := if inE n then wordsL.getD n.toNat ⟨#[]⟩ else bs [101, 114, 114, 111, 114, 32] ++ bs (Lib.itoa n)
theorem inE_yes {n : Int} (h : inE n = true) : ∃ k : Nat, k < 14 ∧ n = k := by
  unfold inE at h
  rw [Bool.and_eq_true, decide_eq_true_eq, decide_eq_true_eq] at h
  exact ⟨n.toNat, by omega, by omega⟩
theorem inE_no {n : Int} (h : inE n = false) : n < 0 ∨ (0 ≤ n ∧ 14 ≤ n) := by
  unfold inE at h
  rw [Bool.and_eq_false_iff, decide_eq_false_iff_not, decide_eq_false_iff_not] at h
  omega
def wordsA : Array Value := (encS wordsL).toArray
theorem words_at {k : Nat} (hk : k < 14) : wordsA[k]? = some (.string (wordsL.getD k ⟨#[]⟩)) := by
  match k, hk with
  | 0, _ | 1, _ | 2, _ | 3, _ | 4, _ | 5, _ | 6, _ | 7, _ | 8, _ | 9, _ | 10, _ | 11, _ | 12, _ | 13, _ => rfl
attribute [local go_sem ↓ high] exec_cat
attribute [local go_sem] strOf_str
set_option maxRecDepth 100000 in
theorem answer_any (n : Int) (hw : (Lit.int .i64 n).wf = true) (w : World) (hv : VarsB w) :
    Calls Tryd.prog 19 #[.int .i64 n] w fun e w' => e = .returned (.string (answerV n)) ∧ Below w.heap.size w w' := by
  have HV := Lib.hid hv
  cases hin : inE n with
  | false =>
    have hv : answerV n = bs [101, 114, 114, 111, 114, 32] ++ bs (Lib.itoa n) := by unfold answerV; rw [hin]; rfl
    rw [hv]
    have hcat : catOk ⟨#[101, 114, 114, 111, 114, 32]⟩ (bs (Lib.itoa n)) := by
      unfold catOk
      have := itoa_len hw
      rw [bs_size]
      show 6 + _ ≤ _
      omega
    have hsz : (bs (Lib.itoa n)).size ≤ 100 := by rw [bs_size]; exact itoa_len hw
    have he : bs [101, 114, 114, 111, 114, 32] = ⟨#[101, 114, 114, 111, 114, 32]⟩ := rfl
    rw [he]
    clear he hv
    rcases inE_no hin with h | ⟨h, h2⟩
    · go_enter Tryd.func19, Tryd.ntmps19
      go_wp2_with (refine store_blk (C := wordsA) (by rfl) _ _ (by rfl) (by rfl) (by rfl) (heap_at_new _ (by simp)) (by rfl) (by kernel_rfl) (by simp [wordsA, wordsL, encS, Value.oneCell']) ?_; intro w1 hb1 ho1)
      have B1 := Lib.hid (only_below (w := w) ((Below.refl w.heap.size w).alloc (Nat.le_refl _) _) ho1 (Nat.le_refl _))
      clear hb1 ho1
      go_wp2_with fail
      refine (itoaB_any n hw w1 (HV.out.below B1.out)).mono ?_
      rintro e w2 ⟨rfl, b2⟩
      have B2 := Lib.hid (B1.out.trans (b2.mono B1.out.size))
      clear b2
      go_wp2_with fail
      go_ret
      exact ⟨rfl, B2.out⟩
    · go_enter Tryd.func19, Tryd.ntmps19
      go_wp2_with (refine store_blk (C := wordsA) (by rfl) _ _ (by rfl) (by rfl) (by rfl) (heap_at_new _ (by simp)) (by rfl) (by kernel_rfl) (by simp [wordsA, wordsL, encS, Value.oneCell']) ?_; intro w1 hb1 ho1)
      have B1 := Lib.hid (only_below (w := w) ((Below.refl w.heap.size w).alloc (Nat.le_refl _) _) ho1 (Nat.le_refl _))
      clear hb1 ho1
      go_wp2_with fail
      refine (itoaB_any n hw w1 (HV.out.below B1.out)).mono ?_
      rintro e w2 ⟨rfl, b2⟩
      have B2 := Lib.hid (B1.out.trans (b2.mono B1.out.size))
      clear b2
      go_wp2_with fail
      go_ret
      exact ⟨rfl, B2.out⟩
  | true =>
    obtain ⟨k, hk, rfl⟩ := inE_yes hin
    have hv : answerV (k : Int) = wordsL.getD k ⟨#[]⟩ := by unfold answerV; rw [hin]; rfl
    rw [hv]
    have hk1 : (k : Int) < 14 := by omega
    have HF := Lib.hid (words_at hk)
    generalize wordsL.getD k ⟨#[]⟩ = x at HF ⊢
    clear hv hin hw
    go_enter Tryd.func19, Tryd.ntmps19
    go_wp2_with (refine store_blk (C := wordsA) (by rfl) _ _ (by rfl) (by rfl) (by rfl) (heap_at_new _ (by simp)) (by rfl) (by kernel_rfl) (by simp [wordsA, wordsL, encS, Value.oneCell']) ?_; intro w1 hb1 ho1; have e0 := hb1.cell k; rw [HF.out] at e0)
    have hB := only_below (w := w) ((Below.refl w.heap.size w).alloc (Nat.le_refl _) _) ho1 (Nat.le_refl _)
    go_ret
    exact ⟨rfl, hB⟩
end Go.Proofs.YtogomkkglcddmaaDoor.Ad
