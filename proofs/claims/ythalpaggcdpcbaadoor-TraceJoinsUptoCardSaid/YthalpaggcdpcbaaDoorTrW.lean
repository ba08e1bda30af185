/- lives, TraceEscapes. -/
import Derived.Test.YthalpaggcdpcbaaDoorTrM
import Derived.Test.YthalpaggcdpcbaaDoorTrG
namespace Go.Proofs.YthalpaggcdpcbaaDoor.Tr
open Go.RowKit Go.Proofs.YthalpaggcdpcbaaDoor Go.Proofs.YthalpaggcdpcbaaDoor.Nm Go.Proofs.YthalpaggcdpcbaaDoor.Cf
theorem min_is2 (ats : Array TypeId) (ty : TypeId) (x y : Int) (W : World) : (Builtin.min_ ats ty #[.int .i64 x, .int .i64 y]).run Tryd.prog W = .ok (.int .i64 (if y < x then y else x)) W := by
  simp only [Builtin.min_, List.foldlM_cons, List.foldlM_nil, Builtin.min2]
  rfl
theorem cut_facts2 (k : Nat) (s : ByteArray) : ∃ (m : Int) (t : ByteArray), (∀ W ats ty, (Builtin.min_ ats ty #[.int .i64 (s.size : Int), .int .i64 (k : Int)]).run Tryd.prog W = .ok (.int .i64 m) W) ∧ (∀ W, (Instr.slice 9 (.string s) none (some (.int .i64 m)) none).run Tryd.prog W = .ok (.string t) W) ∧ t.size ≤ k := by
  refine ⟨if (k : Int) < s.size then k else s.size, s.extract 0 (if (k : Int) < s.size then (k : Int) else s.size).toNat, fun W ats ty => min_is2 _ _ _ _ _, fun W => ?_, ?_⟩
  · exact run_slice_string_h (w := W) (ht := Tryd.underlying9) (kh := .i64) (h := if (k : Int) < s.size then (k : Int) else s.size) (h0 := by split <;> omega) (h2 := by split <;> omega)
  · rw [ByteArray.size_extract]
    split <;> omega
theorem lives_1 : lineV ⟨2, 3, 0, e0, ⟨#[97]⟩⟩ = (⟨#[100, 105, 97, 108, 32, 51, 32, 97]⟩, 0) := by decide +kernel
theorem lives_2 : lineV ⟨1, 2, 3, ⟨#[113]⟩, e0⟩ = (⟨#[99, 111, 110, 110, 32, 50, 32, 113, 117, 101, 114, 121, 32, 113]⟩, 0) := by decide +kernel
theorem lives_3 : escV ⟨#[97, 10]⟩ = ⟨#[97, 92, 48, 97]⟩ := by decide +kernel
set_option maxRecDepth 100000 in
set_option maxHeartbeats 2000000 in
theorem lives_any (w : World) (hv : VarsC w) : Calls Tryd.prog 9 #[] w fun e w' => e = .returned (.bool true) ∧ Below w.heap.size w w' := by
  have H1 := Lib.hid (show ∀ W, VarsC W → Calls Tryd.prog 11 #[.agg #[.int .i64 2, .int .i64 3, .int .i64 0, .string ⟨#[]⟩, .string ⟨#[97]⟩]] W fun e w' => e = .returned (.tuple #[.string ⟨#[100, 105, 97, 108, 32, 51, 32, 97]⟩, .int .i64 0]) ∧ Below W.heap.size W w' from fun W h => by
    have := line_any ⟨2, 3, 0, e0, ⟨#[97]⟩⟩ (by decide) (by decide) W h
    unfold LinePost at this
    rw [lives_1] at this
    exact this)
  have H2 := Lib.hid (show ∀ W, VarsC W → Calls Tryd.prog 11 #[.agg #[.int .i64 1, .int .i64 2, .int .i64 3, .string ⟨#[113]⟩, .string ⟨#[]⟩]] W fun e w' => e = .returned (.tuple #[.string ⟨#[99, 111, 110, 110, 32, 50, 32, 113, 117, 101, 114, 121, 32, 113]⟩, .int .i64 0]) ∧ Below W.heap.size W w' from fun W h => by
    have := line_any ⟨1, 2, 3, ⟨#[113]⟩, e0⟩ (by decide) (by decide) W h
    unfold LinePost at this
    rw [lives_2] at this
    exact this)
  have H3 := Lib.hid (fun W => escape_any ⟨#[97, 10]⟩ (by decide) W)
  rw [lives_3] at H3
  have HV := Lib.hid hv
  clear hv
  go_enter Tryd.func9, Tryd.ntmps9
  go_wp2_with fail
  refine (H1.out _ (by exact HV.out)).mono ?_
  rintro e w1 ⟨rfl, b1⟩
  have B1 := Lib.hid b1
  clear b1
  go_wp2_with fail
  refine (H2.out _ (HV.out.below B1.out)).mono ?_
  rintro e w2 ⟨rfl, b2⟩
  have B2 := Lib.hid (B1.out.trans (b2.mono B1.out.size))
  clear b2
  go_wp2_with fail
  refine (H3.out _).mono ?_
  rintro e w3 ⟨rfl, b3⟩
  have B3 := Lib.hid (B2.out.trans (b3.mono B2.out.size))
  clear b3
  go_wp2_with fail
  go_ret
  exact ⟨rfl, B3.out⟩
theorem unesc_escV (s : ByteArray) : unescV (escV s) = (s, 0) := by
  have : unescL (escV s).data.toList = some s.data.toList := by
    unfold escV
    rw [bs_list]
    exact unesc_esc _
  rw [unescV_some this, of_bs]
theorem escV_size2 (s : ByteArray) : s.size ≤ (escV s).size ∧ (escV s).size ≤ 3 * s.size := by
  unfold escV
  rw [bs_size]
  have := escL_len s.data.toList
  have h2 : s.data.toList.length = s.size := by simp
  omega
theorem escV_eq (a b : ByteArray) : ((escV a).toList == (escV b).toList) = (a.toList == b.toList) := by
  rw [Bool.eq_iff_iff, beq_iff_eq, beq_iff_eq, ByteArray.toList_eq, ByteArray.toList_eq, ByteArray.toList_eq, ByteArray.toList_eq]
  unfold escV
  rw [bs_list, bs_list]
  exact ⟨fun h => escL_inj h, fun h => by rw [h]⟩
theorem esc_byte (s : ByteArray) (j : Nat) (hj : j < (escV s).size) : ∃ x : Nat, 32 ≤ x ∧ x ≤ 126 ∧ ∀ W, (Instr.index 9 (.string (escV s)) (.int .i64 (j : Int))).run Tryd.prog W = .ok (.int .u8 (x : Int)) W := by
  unfold escV at hj ⊢
  rw [bs_size] at hj
  have := escL_sign (l := s.data.toList) (List.getElem_mem hj)
  exact ⟨_, this.1, this.2, fun W => idx_run _ j hj W⟩
set_option maxRecDepth 100000 in
set_option maxHeartbeats 4000000 in
theorem walk_TraceEscapes (w : World) (a0 : ByteArray) (_ha : a0.size ≤ maxLen) (b0 : ByteArray) (_hb : b0.size ≤ maxLen) (hv : VarsC w) :
    Calls Tryd.prog 5 #[.string a0, .string b0] w fun e w' => e = .returned (.bool true) ∧ Below w.heap.size w w' := by
  obtain ⟨m, a, hmin, hsl, hs⟩ := cut_facts2 60 a0
  replace hmin : ∀ W ats ty, (Builtin.min_ ats ty #[.int .i64 (a0.size : Int), .int .i64 60]).run Tryd.prog W = .ok (.int .i64 m) W := hmin
  obtain ⟨m2, b, hmin2, hsl2, hs2⟩ := cut_facts2 60 b0
  replace hmin2 : ∀ W ats ty, (Builtin.min_ ats ty #[.int .i64 (b0.size : Int), .int .i64 60]).run Tryd.prog W = .ok (.int .i64 m2) W := hmin2
  have HL := Lib.hid (lives_any w hv)
  have HA := Lib.hid (fun W => escape_any a (by omega) W)
  have HB := Lib.hid (fun W => escape_any b (by omega) W)
  have hz := escV_size2 a
  have HU := Lib.hid (fun W => unescape_any (escV a) (by omega) W)
  unfold UnPost at HU
  rw [unesc_escV] at HU
  dsimp only at HU
  have heq := escV_eq a b
  have HX := Lib.hid (esc_byte a)
  generalize escV a = ea at *
  generalize escV b = eb at *
  clear hv _ha _hb
  go_enter Tryd.func5, Tryd.ntmps5
  go_wp2_with fail
  refine HL.out.mono ?_
  rintro e w1 ⟨rfl, b1⟩
  have B1 := Lib.hid b1
  clear b1 HL
  go_wp2_with fail
  go_region
  go_wp2_with fail
  refine (HA.out _).mono ?_
  rintro e w2 ⟨rfl, b2⟩
  have B2 := Lib.hid (show B w w2 from (B_trans (by first | exact B1.out | exact B_drew B1.out | exact B_drewN B1.out _) b2))
  clear b2
  go_wp2_with fail
  refine (HB.out _).mono ?_
  rintro e w3 ⟨rfl, b3⟩
  have B3 := Lib.hid (show B w w3 from (B_trans (by first | exact B2.out | exact B_drew B2.out | exact B_drewN B2.out _) b3))
  clear b3
  go_wp2_with fail
  refine (HU.out _).mono ?_
  rintro e w4 ⟨rfl, b4⟩
  have B4 := Lib.hid (show B w w4 from (B_trans (by first | exact B3.out | exact B_drew B3.out | exact B_drewN B3.out _) b4))
  clear b4
  go_wp2_with fail
  go_loopw [9] (fun i wr => ∃ j : Nat, j ≤ ea.size ∧ i = .int .i64 j ∧ B w wr) (fun i _ => ea.size - (intOf i).toNat)
  case atStart => exact ⟨0, Nat.zero_le _, rfl, by first | exact B4.out | exact B_drew B4.out | exact B_drewN B4.out _⟩
  case round =>
    obtain ⟨j, hj, rfl, hr⟩ := hrel
    have BR := Lib.hid hr
    clear hr
    by_cases hjm : j < ea.size
    · obtain ⟨x, h1, h2, hx⟩ := HX.out j hjm
      have t1 : decide ((x : Int) < 32) = false := by rw [decide_eq_false_iff_not]; omega
      have t2 : decide ((126 : Int) < x) = false := by rw [decide_eq_false_iff_not]; omega
      go_wp2_with fail
      go_roundw
      case rel => exact ⟨j + 1, by omega, by go_num, by first | exact BR.out | exact B_drew BR.out | exact B_drewN BR.out _⟩
      case measure => simp [intOf]; omega
    · have t1 : decide ((a.size : Int) ≤ ea.size) = true := by rw [decide_eq_true_iff]; omega
      have t2 : decide ((ea.size : Int) ≤ 3 * a.size) = true := by rw [decide_eq_true_iff]; omega
      go_wp2_with fail
      go_ret
      exact ⟨rfl, by first | exact BR.out | exact B_drew BR.out | exact B_drewN BR.out _⟩
end Go.Proofs.YthalpaggcdpcbaaDoor.Tr
