/- trace.Right: may the output be? -/
import Derived.Test.YtghjhcobmbobcaaFn
import Derived.Test.YtghjhcobmbobcaaWc
import Derived.Test.YtghjhcobmbobcaaWEqStruct
namespace Go.Proofs.Ytghjhcobmbobcaa.Wt
open Go.RowKit Go.Proofs.Ytghjhcobmbobcaa.Mp Go.Proofs.Ytghjhcobmbobcaa Go.Proofs.YtghjhcobmbobcaaW.PrintWords

theorem eqFrame (d : Nat) (w : World) (x0 y0 : Int) (x1 y1 : ByteArray) :
    (Op.equalIn (d + 2) 34 (.agg #[.int .i64 x0, .string x1]) (.agg #[.int .i64 y0, .string y1])).run Try.prog w = .ok (x0 == y0 && (x1.toList == y1.toList)) w := by
  refine eqA_of Try.underlying34 (by kernel_rfl) ?_
  refine eqf_cons (by rfl) (by go_simp; rfl) (by go_simp; rfl) (by go_simp) ?_
  exact eqf_last (by rfl) (by go_simp; rfl) (by go_simp; rfl) (by go_simp)
attribute [local go_sem high] eqFrame
def numberV (id : Int) : Bool := decide (0 < id) && decide (id ≤ 999999999)
def bareV (o : OutV) : Bool := o.fk == 0 && o.data.toList.isEmpty
def emptyV (s : ByteArray) : Bool := s.toList.isEmpty
def rightV (o : OutV) : Bool :=
  if o.k = 0 ∨ o.k = 1 then numberV o.id && (!emptyV (fnameV o.fk) && emptyV o.text)
  else if o.k = 2 then numberV o.id && (bareV o && nameB o.text)
  else if o.k = 3 ∨ o.k = 4 then numberV o.id && (bareV o && emptyV o.text)
  else if o.k = 5 ∨ o.k = 6 then decide (o.id = 0) && (bareV o && !emptyV o.text)
  else false
theorem right_0_low (id fk : Int) (data text : ByteArray) (i0 : id ≤ 0) : RightIs ⟨0, id, fk, data, text⟩ false := by
  unfold RightIs outArg
  intro w
  have H0 : Hid (Below w.heap.size w (w.alloc (.cells #[.int .i64 0, .int .i64 id, .int .i64 fk, .string data, .string text] 36))) := Lib.hid ((Below.refl _ _).alloc (Nat.le_refl _) _)
  go_enter Try.func21, Try.ntmps21
  go_wp2_with fail
  all_goals go_ret
  all_goals exact ⟨rfl, H0.out⟩
theorem right_0_high (id fk : Int) (data text : ByteArray) (i0 : 999999999 < id) : RightIs ⟨0, id, fk, data, text⟩ false := by
  unfold RightIs outArg
  intro w
  have H0 : Hid (Below w.heap.size w (w.alloc (.cells #[.int .i64 0, .int .i64 id, .int .i64 fk, .string data, .string text] 36))) := Lib.hid ((Below.refl _ _).alloc (Nat.le_refl _) _)
  go_enter Try.func21, Try.ntmps21
  go_wp2_with fail
  all_goals go_ret
  all_goals exact ⟨rfl, H0.out⟩
theorem right_1_low (id fk : Int) (data text : ByteArray) (i0 : id ≤ 0) : RightIs ⟨1, id, fk, data, text⟩ false := by
  unfold RightIs outArg
  intro w
  have H0 : Hid (Below w.heap.size w (w.alloc (.cells #[.int .i64 1, .int .i64 id, .int .i64 fk, .string data, .string text] 36))) := Lib.hid ((Below.refl _ _).alloc (Nat.le_refl _) _)
  go_enter Try.func21, Try.ntmps21
  go_wp2_with fail
  all_goals go_ret
  all_goals exact ⟨rfl, H0.out⟩
theorem right_1_high (id fk : Int) (data text : ByteArray) (i0 : 999999999 < id) : RightIs ⟨1, id, fk, data, text⟩ false := by
  unfold RightIs outArg
  intro w
  have H0 : Hid (Below w.heap.size w (w.alloc (.cells #[.int .i64 1, .int .i64 id, .int .i64 fk, .string data, .string text] 36))) := Lib.hid ((Below.refl _ _).alloc (Nat.le_refl _) _)
  go_enter Try.func21, Try.ntmps21
  go_wp2_with fail
  all_goals go_ret
  all_goals exact ⟨rfl, H0.out⟩
theorem right_2_low (id fk : Int) (data text : ByteArray) (i0 : id ≤ 0) : RightIs ⟨2, id, fk, data, text⟩ false := by
  unfold RightIs outArg
  intro w
  have H0 : Hid (Below w.heap.size w (w.alloc (.cells #[.int .i64 2, .int .i64 id, .int .i64 fk, .string data, .string text] 36))) := Lib.hid ((Below.refl _ _).alloc (Nat.le_refl _) _)
  go_enter Try.func21, Try.ntmps21
  go_wp2_with fail
  all_goals go_ret
  all_goals exact ⟨rfl, H0.out⟩
theorem right_2_high (id fk : Int) (data text : ByteArray) (i0 : 999999999 < id) : RightIs ⟨2, id, fk, data, text⟩ false := by
  unfold RightIs outArg
  intro w
  have H0 : Hid (Below w.heap.size w (w.alloc (.cells #[.int .i64 2, .int .i64 id, .int .i64 fk, .string data, .string text] 36))) := Lib.hid ((Below.refl _ _).alloc (Nat.le_refl _) _)
  go_enter Try.func21, Try.ntmps21
  go_wp2_with fail
  all_goals go_ret
  all_goals exact ⟨rfl, H0.out⟩
theorem right_3_low (id fk : Int) (data text : ByteArray) (i0 : id ≤ 0) : RightIs ⟨3, id, fk, data, text⟩ false := by
  unfold RightIs outArg
  intro w
  have H0 : Hid (Below w.heap.size w (w.alloc (.cells #[.int .i64 3, .int .i64 id, .int .i64 fk, .string data, .string text] 36))) := Lib.hid ((Below.refl _ _).alloc (Nat.le_refl _) _)
  go_enter Try.func21, Try.ntmps21
  go_wp2_with fail
  all_goals go_ret
  all_goals exact ⟨rfl, H0.out⟩
theorem right_3_high (id fk : Int) (data text : ByteArray) (i0 : 999999999 < id) : RightIs ⟨3, id, fk, data, text⟩ false := by
  unfold RightIs outArg
  intro w
  have H0 : Hid (Below w.heap.size w (w.alloc (.cells #[.int .i64 3, .int .i64 id, .int .i64 fk, .string data, .string text] 36))) := Lib.hid ((Below.refl _ _).alloc (Nat.le_refl _) _)
  go_enter Try.func21, Try.ntmps21
  go_wp2_with fail
  all_goals go_ret
  all_goals exact ⟨rfl, H0.out⟩
theorem right_4_low (id fk : Int) (data text : ByteArray) (i0 : id ≤ 0) : RightIs ⟨4, id, fk, data, text⟩ false := by
  unfold RightIs outArg
  intro w
  have H0 : Hid (Below w.heap.size w (w.alloc (.cells #[.int .i64 4, .int .i64 id, .int .i64 fk, .string data, .string text] 36))) := Lib.hid ((Below.refl _ _).alloc (Nat.le_refl _) _)
  go_enter Try.func21, Try.ntmps21
  go_wp2_with fail
  all_goals go_ret
  all_goals exact ⟨rfl, H0.out⟩
theorem right_4_high (id fk : Int) (data text : ByteArray) (i0 : 999999999 < id) : RightIs ⟨4, id, fk, data, text⟩ false := by
  unfold RightIs outArg
  intro w
  have H0 : Hid (Below w.heap.size w (w.alloc (.cells #[.int .i64 4, .int .i64 id, .int .i64 fk, .string data, .string text] 36))) := Lib.hid ((Below.refl _ _).alloc (Nat.le_refl _) _)
  go_enter Try.func21, Try.ntmps21
  go_wp2_with fail
  all_goals go_ret
  all_goals exact ⟨rfl, H0.out⟩
theorem right_0_noname (id fk : Int) (data text : ByteArray) (i0 : 0 < id) (i1 : id ≤ 999999999) (hN : (fnameV fk).toList.isEmpty = true) : RightIs ⟨0, id, fk, data, text⟩ false := by
  unfold RightIs outArg
  intro w
  have H0 : Hid (Below w.heap.size w (w.alloc (.cells #[.int .i64 0, .int .i64 id, .int .i64 fk, .string data, .string text] 36))) := Lib.hid ((Below.refl _ _).alloc (Nat.le_refl _) _)
  go_enter Try.func21, Try.ntmps21
  go_wp2_with fail
  refine (fname_any fk _).mono ?_
  rintro e w1 ⟨rfl, hb1⟩
  have p4 : w1.cell? ⟨w.heap.size, 4, none⟩ = some (.string text) := (hb1.cell (p := ⟨w.heap.size, 4, none⟩) (by show w.heap.size < _; rw [World.size_alloc]; omega)).trans (by simp only [World.cell?]; rw [heap_alloc_new]; rfl)
  have H1 : Hid (Below w.heap.size w w1) := Lib.hid (H0.out.trans (hb1.mono (by rw [World.size_alloc]; omega)))
  clear hb1 H0
  generalize fnameV fk = nm at hN ⊢
  go_wp2_with fail
  go_ret
  exact ⟨rfl, H1.out⟩
theorem right_0_name (id fk : Int) (data text : ByteArray) (i0 : 0 < id) (i1 : id ≤ 999999999) (hN : (fnameV fk).toList.isEmpty = false) : RightIs ⟨0, id, fk, data, text⟩ (text.toList.isEmpty) := by
  unfold RightIs outArg
  intro w
  have H0 : Hid (Below w.heap.size w (w.alloc (.cells #[.int .i64 0, .int .i64 id, .int .i64 fk, .string data, .string text] 36))) := Lib.hid ((Below.refl _ _).alloc (Nat.le_refl _) _)
  go_enter Try.func21, Try.ntmps21
  go_wp2_with fail
  refine (fname_any fk _).mono ?_
  rintro e w1 ⟨rfl, hb1⟩
  have p4 : w1.cell? ⟨w.heap.size, 4, none⟩ = some (.string text) := (hb1.cell (p := ⟨w.heap.size, 4, none⟩) (by show w.heap.size < _; rw [World.size_alloc]; omega)).trans (by simp only [World.cell?]; rw [heap_alloc_new]; rfl)
  have H1 : Hid (Below w.heap.size w w1) := Lib.hid (H0.out.trans (hb1.mono (by rw [World.size_alloc]; omega)))
  clear hb1 H0
  generalize fnameV fk = nm at hN ⊢
  go_wp2_with fail
  go_ret
  exact ⟨rfl, H1.out⟩
theorem right_1_noname (id fk : Int) (data text : ByteArray) (i0 : 0 < id) (i1 : id ≤ 999999999) (hN : (fnameV fk).toList.isEmpty = true) : RightIs ⟨1, id, fk, data, text⟩ false := by
  unfold RightIs outArg
  intro w
  have H0 : Hid (Below w.heap.size w (w.alloc (.cells #[.int .i64 1, .int .i64 id, .int .i64 fk, .string data, .string text] 36))) := Lib.hid ((Below.refl _ _).alloc (Nat.le_refl _) _)
  go_enter Try.func21, Try.ntmps21
  go_wp2_with fail
  refine (fname_any fk _).mono ?_
  rintro e w1 ⟨rfl, hb1⟩
  have p4 : w1.cell? ⟨w.heap.size, 4, none⟩ = some (.string text) := (hb1.cell (p := ⟨w.heap.size, 4, none⟩) (by show w.heap.size < _; rw [World.size_alloc]; omega)).trans (by simp only [World.cell?]; rw [heap_alloc_new]; rfl)
  have H1 : Hid (Below w.heap.size w w1) := Lib.hid (H0.out.trans (hb1.mono (by rw [World.size_alloc]; omega)))
  clear hb1 H0
  generalize fnameV fk = nm at hN ⊢
  go_wp2_with fail
  go_ret
  exact ⟨rfl, H1.out⟩
theorem right_1_name (id fk : Int) (data text : ByteArray) (i0 : 0 < id) (i1 : id ≤ 999999999) (hN : (fnameV fk).toList.isEmpty = false) : RightIs ⟨1, id, fk, data, text⟩ (text.toList.isEmpty) := by
  unfold RightIs outArg
  intro w
  have H0 : Hid (Below w.heap.size w (w.alloc (.cells #[.int .i64 1, .int .i64 id, .int .i64 fk, .string data, .string text] 36))) := Lib.hid ((Below.refl _ _).alloc (Nat.le_refl _) _)
  go_enter Try.func21, Try.ntmps21
  go_wp2_with fail
  refine (fname_any fk _).mono ?_
  rintro e w1 ⟨rfl, hb1⟩
  have p4 : w1.cell? ⟨w.heap.size, 4, none⟩ = some (.string text) := (hb1.cell (p := ⟨w.heap.size, 4, none⟩) (by show w.heap.size < _; rw [World.size_alloc]; omega)).trans (by simp only [World.cell?]; rw [heap_alloc_new]; rfl)
  have H1 : Hid (Below w.heap.size w w1) := Lib.hid (H0.out.trans (hb1.mono (by rw [World.size_alloc]; omega)))
  clear hb1 H0
  generalize fnameV fk = nm at hN ⊢
  go_wp2_with fail
  go_ret
  exact ⟨rfl, H1.out⟩
theorem right_2_full (id fk : Int) (data text : ByteArray) (i0 : 0 < id) (i1 : id ≤ 999999999) (hB : (fk == 0 && data.toList.isEmpty) = false) : RightIs ⟨2, id, fk, data, text⟩ false := by
  unfold RightIs outArg
  intro w
  have H0 : Hid (Below w.heap.size w (w.alloc (.cells #[.int .i64 2, .int .i64 id, .int .i64 fk, .string data, .string text] 36))) := Lib.hid ((Below.refl _ _).alloc (Nat.le_refl _) _)
  go_enter Try.func21, Try.ntmps21
  go_wp2_with fail
  all_goals go_ret
  all_goals exact ⟨rfl, H0.out⟩
theorem right_3_full (id fk : Int) (data text : ByteArray) (i0 : 0 < id) (i1 : id ≤ 999999999) (hB : (fk == 0 && data.toList.isEmpty) = false) : RightIs ⟨3, id, fk, data, text⟩ false := by
  unfold RightIs outArg
  intro w
  have H0 : Hid (Below w.heap.size w (w.alloc (.cells #[.int .i64 3, .int .i64 id, .int .i64 fk, .string data, .string text] 36))) := Lib.hid ((Below.refl _ _).alloc (Nat.le_refl _) _)
  go_enter Try.func21, Try.ntmps21
  go_wp2_with fail
  all_goals go_ret
  all_goals exact ⟨rfl, H0.out⟩
theorem right_4_full (id fk : Int) (data text : ByteArray) (i0 : 0 < id) (i1 : id ≤ 999999999) (hB : (fk == 0 && data.toList.isEmpty) = false) : RightIs ⟨4, id, fk, data, text⟩ false := by
  unfold RightIs outArg
  intro w
  have H0 : Hid (Below w.heap.size w (w.alloc (.cells #[.int .i64 4, .int .i64 id, .int .i64 fk, .string data, .string text] 36))) := Lib.hid ((Below.refl _ _).alloc (Nat.le_refl _) _)
  go_enter Try.func21, Try.ntmps21
  go_wp2_with fail
  all_goals go_ret
  all_goals exact ⟨rfl, H0.out⟩
theorem right_2_bare (id fk : Int) (data text : ByteArray) (i0 : 0 < id) (i1 : id ≤ 999999999) (hB : (fk == 0 && data.toList.isEmpty) = true) (hs : text.size ≤ 1000) : RightIs ⟨2, id, fk, data, text⟩ (nameB text) := by
  unfold RightIs outArg
  intro w
  have H0 : Hid (Below w.heap.size w (w.alloc (.cells #[.int .i64 2, .int .i64 id, .int .i64 fk, .string data, .string text] 36))) := Lib.hid ((Below.refl _ _).alloc (Nat.le_refl _) _)
  go_enter Try.func21, Try.ntmps21
  go_wp2_with fail
  refine (name_any text hs _).mono ?_
  rintro e w1 ⟨rfl, hb1⟩
  have p4 : w1.cell? ⟨w.heap.size, 4, none⟩ = some (.string text) := (hb1.cell (p := ⟨w.heap.size, 4, none⟩) (by show w.heap.size < _; rw [World.size_alloc]; omega)).trans (by simp only [World.cell?]; rw [heap_alloc_new]; rfl)
  have H1 : Hid (Below w.heap.size w w1) := Lib.hid (H0.out.trans (hb1.mono (by rw [World.size_alloc]; omega)))
  clear hb1 H0
  go_wp2_with fail
  go_ret
  exact ⟨rfl, H1.out⟩
theorem right_3_bare (id fk : Int) (data text : ByteArray) (i0 : 0 < id) (i1 : id ≤ 999999999) (hB : (fk == 0 && data.toList.isEmpty) = true) : RightIs ⟨3, id, fk, data, text⟩ (text.toList.isEmpty) := by
  unfold RightIs outArg
  intro w
  have H0 : Hid (Below w.heap.size w (w.alloc (.cells #[.int .i64 3, .int .i64 id, .int .i64 fk, .string data, .string text] 36))) := Lib.hid ((Below.refl _ _).alloc (Nat.le_refl _) _)
  go_enter Try.func21, Try.ntmps21
  go_wp2_with fail
  all_goals go_ret
  all_goals exact ⟨rfl, H0.out⟩
theorem right_4_bare (id fk : Int) (data text : ByteArray) (i0 : 0 < id) (i1 : id ≤ 999999999) (hB : (fk == 0 && data.toList.isEmpty) = true) : RightIs ⟨4, id, fk, data, text⟩ (text.toList.isEmpty) := by
  unfold RightIs outArg
  intro w
  have H0 : Hid (Below w.heap.size w (w.alloc (.cells #[.int .i64 4, .int .i64 id, .int .i64 fk, .string data, .string text] 36))) := Lib.hid ((Below.refl _ _).alloc (Nat.le_refl _) _)
  go_enter Try.func21, Try.ntmps21
  go_wp2_with fail
  all_goals go_ret
  all_goals exact ⟨rfl, H0.out⟩
theorem right_5_id (id fk : Int) (data text : ByteArray) (i0 : (id == 0) = false) : RightIs ⟨5, id, fk, data, text⟩ false := by
  unfold RightIs outArg
  intro w
  have H0 : Hid (Below w.heap.size w (w.alloc (.cells #[.int .i64 5, .int .i64 id, .int .i64 fk, .string data, .string text] 36))) := Lib.hid ((Below.refl _ _).alloc (Nat.le_refl _) _)
  go_enter Try.func21, Try.ntmps21
  go_wp2_with fail
  all_goals go_ret
  all_goals exact ⟨rfl, H0.out⟩
theorem right_5_full (id fk : Int) (data text : ByteArray) (i0 : id = 0) (hB : (fk == 0 && data.toList.isEmpty) = false) : RightIs ⟨5, id, fk, data, text⟩ false := by
  subst i0
  unfold RightIs outArg
  intro w
  have H0 : Hid (Below w.heap.size w (w.alloc (.cells #[.int .i64 5, .int .i64 0, .int .i64 fk, .string data, .string text] 36))) := Lib.hid ((Below.refl _ _).alloc (Nat.le_refl _) _)
  go_enter Try.func21, Try.ntmps21
  go_wp2_with fail
  all_goals go_ret
  all_goals exact ⟨rfl, H0.out⟩
theorem right_5_bare (id fk : Int) (data text : ByteArray) (i0 : id = 0) (hB : (fk == 0 && data.toList.isEmpty) = true) : RightIs ⟨5, id, fk, data, text⟩ (!text.toList.isEmpty) := by
  subst i0
  unfold RightIs outArg
  intro w
  have H0 : Hid (Below w.heap.size w (w.alloc (.cells #[.int .i64 5, .int .i64 0, .int .i64 fk, .string data, .string text] 36))) := Lib.hid ((Below.refl _ _).alloc (Nat.le_refl _) _)
  go_enter Try.func21, Try.ntmps21
  go_wp2_with fail
  all_goals go_ret
  all_goals exact ⟨rfl, H0.out⟩
theorem right_6_id (id fk : Int) (data text : ByteArray) (i0 : (id == 0) = false) : RightIs ⟨6, id, fk, data, text⟩ false := by
  unfold RightIs outArg
  intro w
  have H0 : Hid (Below w.heap.size w (w.alloc (.cells #[.int .i64 6, .int .i64 id, .int .i64 fk, .string data, .string text] 36))) := Lib.hid ((Below.refl _ _).alloc (Nat.le_refl _) _)
  go_enter Try.func21, Try.ntmps21
  go_wp2_with fail
  all_goals go_ret
  all_goals exact ⟨rfl, H0.out⟩
theorem right_6_full (id fk : Int) (data text : ByteArray) (i0 : id = 0) (hB : (fk == 0 && data.toList.isEmpty) = false) : RightIs ⟨6, id, fk, data, text⟩ false := by
  subst i0
  unfold RightIs outArg
  intro w
  have H0 : Hid (Below w.heap.size w (w.alloc (.cells #[.int .i64 6, .int .i64 0, .int .i64 fk, .string data, .string text] 36))) := Lib.hid ((Below.refl _ _).alloc (Nat.le_refl _) _)
  go_enter Try.func21, Try.ntmps21
  go_wp2_with fail
  all_goals go_ret
  all_goals exact ⟨rfl, H0.out⟩
theorem right_6_bare (id fk : Int) (data text : ByteArray) (i0 : id = 0) (hB : (fk == 0 && data.toList.isEmpty) = true) : RightIs ⟨6, id, fk, data, text⟩ (!text.toList.isEmpty) := by
  subst i0
  unfold RightIs outArg
  intro w
  have H0 : Hid (Below w.heap.size w (w.alloc (.cells #[.int .i64 6, .int .i64 0, .int .i64 fk, .string data, .string text] 36))) := Lib.hid ((Below.refl _ _).alloc (Nat.le_refl _) _)
  go_enter Try.func21, Try.ntmps21
  go_wp2_with fail
  all_goals go_ret
  all_goals exact ⟨rfl, H0.out⟩
theorem right_none (id fk k : Int) (data text : ByteArray) (hk : k ≠ 0 ∧ k ≠ 1 ∧ k ≠ 2 ∧ k ≠ 3 ∧ k ≠ 4 ∧ k ≠ 5 ∧ k ≠ 6) : RightIs ⟨k, id, fk, data, text⟩ false := by
  have t0 : (k == 0) = false := beq_eq_false_iff_ne.2 hk.1
  have t1 : (k == 1) = false := beq_eq_false_iff_ne.2 hk.2.1
  have t2 : (k == 2) = false := beq_eq_false_iff_ne.2 hk.2.2.1
  have t3 : (k == 3) = false := beq_eq_false_iff_ne.2 hk.2.2.2.1
  have t4 : (k == 4) = false := beq_eq_false_iff_ne.2 hk.2.2.2.2.1
  have t5 : (k == 5) = false := beq_eq_false_iff_ne.2 hk.2.2.2.2.2.1
  have t6 : (k == 6) = false := beq_eq_false_iff_ne.2 hk.2.2.2.2.2.2
  unfold RightIs outArg
  intro w
  have H0 : Hid (Below w.heap.size w (w.alloc (.cells #[.int .i64 k, .int .i64 id, .int .i64 fk, .string data, .string text] 36))) := Lib.hid ((Below.refl _ _).alloc (Nat.le_refl _) _)
  go_enter Try.func21, Try.ntmps21
  go_wp2_with fail
  all_goals go_ret
  all_goals exact ⟨rfl, H0.out⟩
theorem num_low {id : Int} (h : id ≤ 0) : numberV id = false := by unfold numberV; rw [decide_eq_false (by omega)]; rfl
theorem num_high {id : Int} (h : 999999999 < id) : numberV id = false := by unfold numberV; rw [decide_eq_false (p := id ≤ 999999999) (by omega), Bool.and_false]
theorem num_yes {id : Int} (h : 0 < id) (h1 : id ≤ 999999999) : numberV id = true := by unfold numberV; rw [decide_eq_true h, decide_eq_true h1]; rfl
theorem right_any (o : OutV) (hs : o.text.size ≤ 1000) : RightIs o (rightV o) := by
  obtain ⟨k, id, fk, data, text⟩ := o
  have hn : id ≤ 0 ∨ 999999999 < id ∨ (0 < id ∧ id ≤ 999999999) := by omega
  have hb : (fk == 0 && data.toList.isEmpty) = false ∨ (fk == 0 && data.toList.isEmpty) = true := by cases (fk == 0 && data.toList.isEmpty) <;> simp
  by_cases k0 : k = 0
  · subst k0
    show RightIs _ (numberV id && (!(fnameV fk).toList.isEmpty && text.toList.isEmpty))
    rcases hn with h | h | ⟨h, h1⟩
    · rw [num_low h]; exact right_0_low id fk data text h
    · rw [num_high h]; exact right_0_high id fk data text h
    · rw [num_yes h h1]
      cases hN : (fnameV fk).toList.isEmpty with
      | true => exact right_0_noname id fk data text h h1 hN
      | false => exact right_0_name id fk data text h h1 hN
  by_cases k1 : k = 1
  · subst k1
    show RightIs _ (numberV id && (!(fnameV fk).toList.isEmpty && text.toList.isEmpty))
    rcases hn with h | h | ⟨h, h1⟩
    · rw [num_low h]; exact right_1_low id fk data text h
    · rw [num_high h]; exact right_1_high id fk data text h
    · rw [num_yes h h1]
      cases hN : (fnameV fk).toList.isEmpty with
      | true => exact right_1_noname id fk data text h h1 hN
      | false => exact right_1_name id fk data text h h1 hN
  by_cases k2 : k = 2
  · subst k2
    show RightIs _ (numberV id && ((fk == 0 && data.toList.isEmpty) && nameB text))
    rcases hn with h | h | ⟨h, h1⟩
    · rw [num_low h]; exact right_2_low id fk data text h
    · rw [num_high h]; exact right_2_high id fk data text h
    · rw [num_yes h h1]
      rcases hb with hb | hb
      · rw [hb]; exact right_2_full id fk data text h h1 hb
      · rw [hb]; exact right_2_bare id fk data text h h1 hb hs
  by_cases k3 : k = 3
  · subst k3
    show RightIs _ (numberV id && ((fk == 0 && data.toList.isEmpty) && text.toList.isEmpty))
    rcases hn with h | h | ⟨h, h1⟩
    · rw [num_low h]; exact right_3_low id fk data text h
    · rw [num_high h]; exact right_3_high id fk data text h
    · rw [num_yes h h1]
      rcases hb with hb | hb
      · rw [hb]; exact right_3_full id fk data text h h1 hb
      · rw [hb]; exact right_3_bare id fk data text h h1 hb
  by_cases k4 : k = 4
  · subst k4
    show RightIs _ (numberV id && ((fk == 0 && data.toList.isEmpty) && text.toList.isEmpty))
    rcases hn with h | h | ⟨h, h1⟩
    · rw [num_low h]; exact right_4_low id fk data text h
    · rw [num_high h]; exact right_4_high id fk data text h
    · rw [num_yes h h1]
      rcases hb with hb | hb
      · rw [hb]; exact right_4_full id fk data text h h1 hb
      · rw [hb]; exact right_4_bare id fk data text h h1 hb
  by_cases k5 : k = 5
  · subst k5
    show RightIs _ (decide (id = 0) && ((fk == 0 && data.toList.isEmpty) && !text.toList.isEmpty))
    by_cases hz : id = 0
    · rw [decide_eq_true hz]
      rcases hb with hb | hb
      · rw [hb]; exact right_5_full id fk data text hz hb
      · rw [hb]; exact right_5_bare id fk data text hz hb
    · rw [decide_eq_false hz]; exact right_5_id id fk data text (beq_eq_false_iff_ne.2 hz)
  by_cases k6 : k = 6
  · subst k6
    show RightIs _ (decide (id = 0) && ((fk == 0 && data.toList.isEmpty) && !text.toList.isEmpty))
    by_cases hz : id = 0
    · rw [decide_eq_true hz]
      rcases hb with hb | hb
      · rw [hb]; exact right_6_full id fk data text hz hb
      · rw [hb]; exact right_6_bare id fk data text hz hb
    · rw [decide_eq_false hz]; exact right_6_id id fk data text (beq_eq_false_iff_ne.2 hz)
  have e : rightV ⟨k, id, fk, data, text⟩ = false := by
    unfold rightV
    rw [if_neg (by intro e; rcases e with e | e; exact k0 e; exact k1 e), if_neg k2, if_neg (by intro e; rcases e with e | e; exact k3 e; exact k4 e), if_neg (by intro e; rcases e with e | e; exact k5 e; exact k6 e)]
  rw [e]
  exact right_none id fk k data text ⟨k0, k1, k2, k3, k4, k5, k6⟩
end Go.Proofs.Ytghjhcobmbobcaa.Wt
