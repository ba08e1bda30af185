/- The reference's number (hostlerref08: Number). -/
import Derived.Test.YthalpaggcdpcbaaDoorTCrA
namespace Go.Proofs.YthalpaggcdpcbaaDoor.Cf
open Go.RowKit Go.Proofs.YthalpaggcdpcbaaDoor Go.Proofs.YthalpaggcdpcbaaDoor.Nm
theorem piece_one (s : ByteArray) (k : Nat) (h : k < s.size) : s.extract k (k + 1) = bs [s[k]] := by
  have h' : k < s.data.toList.length := by simpa using h
  refine (of_bs _).symm.trans ?_
  congr 1
  rw [ByteArray.data_extract, Array.toList_extract, List.extract_eq_take_drop, show k + 1 - k = 1 by omega, List.drop_eq_getElem_cons h']
  rfl
theorem take_one (s : ByteArray) (k : Nat) (h : k < s.size) : s.data.toList.take (k + 1) = s.data.toList.take k ++ [s[k]] := by
  have h' : k < s.data.toList.length := by simpa using h
  rw [List.take_succ_eq_append_getElem h']
  rfl
theorem wrap_u8 {x : Int} (h0 : 0 ≤ x) (h1 : x < 256) : IntKind.u8.wrap x = x := by
  rw [IntKind.wrap_u8]; omega
theorem isD_all {l : List UInt8} (h : l.all isD = true) : ∀ c ∈ l, isD c = true := fun c hc => List.all_eq_true.1 h c hc
theorem take_drop_one {s : ByteArray} {f m : Nat} (hfm : f ≤ m) (hlt : m < s.size) : (s.data.toList.drop f).take (m + 1 - f) = (s.data.toList.drop f).take (m - f) ++ [s[m]] := by
  have h' : m < s.data.toList.length := by simpa using hlt
  have h2 : m - f < (s.data.toList.drop f).length := by rw [List.length_drop]; omega
  rw [show m + 1 - f = (m - f) + 1 by omega, List.take_succ_eq_append_getElem h2, List.getElem_drop]
  have key : ∀ (j : Nat) (hj : j < s.data.toList.length), j = m → s.data.toList[j]'hj = s[m] := by
    rintro j hj rfl
    rfl
  rw [key _ _ (by omega)]
theorem dig_step {s : ByteArray} {f m : Nat} (hfm : f ≤ m) (hlt : m < s.size) :
    valF 0 ((s.data.toList.drop f).take (m + 1 - f)) = 10 * valF 0 ((s.data.toList.drop f).take (m - f)) + ((s[m]).toNat - 48) ∧ (isD s[m] = true → ((s.data.toList.drop f).take (m - f)).all isD = true → ((s.data.toList.drop f).take (m + 1 - f)).all isD = true) := by
  rw [take_drop_one hfm hlt, valF_append]
  refine ⟨?_, fun h1 h2 => ?_⟩
  · generalize valF 0 ((s.data.toList.drop f).take (m - f)) = V
    generalize s[m] = x
    show V * 10 + (x.toNat - 48) = _
    rw [Nat.mul_comm]
  · rw [List.all_append, h2]; simp [h1]
theorem ref_lt {s : ByteArray} {f m : Nat} (hm : m ≤ f + 10) (hD : ((s.data.toList.drop f).take (m - f)).all isD = true) : valF 0 ((s.data.toList.drop f).take (m - f)) < 10000000000 := by
  have h := valF_lt _ 0 (isD_all hD)
  have h2 : 10 ^ ((s.data.toList.drop f).take (m - f)).length ≤ 10 ^ 10 := Nat.pow_le_pow_right (by decide) (by rw [List.length_take]; omega)
  omega
theorem ref_lt9 {s : ByteArray} {f m : Nat} (hm : m < f + 10) (_ : f ≤ m) (hD : ((s.data.toList.drop f).take (m - f)).all isD = true) : valF 0 ((s.data.toList.drop f).take (m - f)) < 10000000000 := ref_lt (by omega) hD
theorem num_none {s : ByteArray} (h : (numV s).isSome = false) : numV s = none := by
  cases hq : numV s with
  | none => rfl
  | some v => rw [hq] at h; cases h
theorem dig_bad {s : ByteArray} {f m : Nat} (ht : tailOf s.data.toList = s.data.toList.drop f) (hfm : f ≤ m) (hlt2 : m < f + 10) (hlt : m < s.size) : isD s[m] = false → numV s = none := fun hx => by
  refine num_none ?_
  rw [numV, ← refOk_iff]
  unfold refOk
  rw [ht]
  have hmem : s[m] ∈ (s.data.toList.drop f).take 10 := by
    have h1 : s[m] ∈ (s.data.toList.drop f).take (m + 1 - f) := by rw [take_drop_one hfm hlt]; simp
    have h2 := List.take_subset_take_left (s.data.toList.drop f) (show m + 1 - f ≤ 10 by omega)
    exact h2 h1
  have hall : ((s.data.toList.drop f).take 10).all isD = false := by
    rw [List.all_eq_false]
    exact ⟨_, hmem, by rw [hx]; decide⟩
  rw [hall, Bool.false_and]
theorem ref_end {s : ByteArray} {f m : Nat} (ht : tailOf s.data.toList = s.data.toList.drop f) (hg : negOf s.data.toList = decide (f = 1)) (_ : f ≤ m) (hme : m = s.size ∨ m = f + 10) (hm : m ≤ f + 10) (hms : m ≤ s.size) (hD : ((s.data.toList.drop f).take (m - f)).all isD = true) :
    refVal s.data.toList = (if f = 1 then -((valF 0 ((s.data.toList.drop f).take (m - f)) : Nat) : Int) else ((valF 0 ((s.data.toList.drop f).take (m - f)) : Nat) : Int)) ∧ (numV s).isSome = (decide (s.size - f ≤ 9) && decide (Lib.itoa (refVal s.data.toList) = s.data.toList)) := by
  have hlen : s.data.toList.length = s.size := by simp
  have htk : (s.data.toList.drop f).take (m - f) = (s.data.toList.drop f).take 10 := by
    rcases hme with h | h
    · rw [List.take_of_length_le (by rw [List.length_drop]; omega), List.take_of_length_le (by rw [List.length_drop]; omega)]
    · rw [h, show f + 10 - f = 10 by omega]
  constructor
  · rw [htk]
    unfold refVal
    rw [ht, hg]
    by_cases h : f = 1 <;> simp [h]
  · rw [numV, ← refOk_iff]
    unfold refOk
    rw [ht, ← htk, hD, Bool.true_and, List.length_drop, hlen]
theorem num_end {s : ByteArray} {w w' : World} {n : Int} (hv : refVal s.data.toList = n) (hs : (numV s).isSome = decide (Lib.itoa (refVal s.data.toList) = s.data.toList)) (hb : Below w.heap.size w w') : NumPost s w (.returned (.tuple #[.int .i64 n, .bool ((bs (Lib.itoa n)).toList == s.toList)])) w' := by
  refine ⟨n, _, rfl, ?_, fun v h => ?_, hb⟩
  · rw [str_eq, bs_list, hs, hv]
  · rw [← hv]; exact refVal_ok h
theorem tail_empty {s : ByteArray} (h : s.size = 0) : tailOf s.data.toList = s.data.toList.drop 0 ∧ negOf s.data.toList = decide ((0 : Nat) = 1) := by
  have : s.data.toList = [] := List.eq_nil_of_length_eq_zero (by simpa using h)
  rw [this]; exact ⟨rfl, rfl⟩
theorem list_head {s : ByteArray} (h : 0 < s.size) : ∃ r, s.data.toList = s[0] :: r := by
  have h' : 0 < s.data.toList.length := by simpa using h
  refine ⟨s.data.toList.drop 1, ?_⟩
  have := List.drop_eq_getElem_cons h'
  rw [List.drop_zero] at this
  exact this
theorem tail_neg {s : ByteArray} (h : 0 < s.size) (hx : s[0] = 45) : tailOf s.data.toList = s.data.toList.drop 1 ∧ negOf s.data.toList = decide ((1 : Nat) = 1) := by
  obtain ⟨r, e⟩ := list_head h
  rw [e, hx]
  refine ⟨?_, ?_⟩
  · show (if (45 : UInt8) = 45 then r else 45 :: r) = _
    rw [if_pos rfl]; rfl
  · show ((45 : UInt8) == 45) = _
    simp
theorem tail_pos {s : ByteArray} (h : 0 < s.size) (hx : s[0] ≠ 45) : tailOf s.data.toList = s.data.toList.drop 0 ∧ negOf s.data.toList = decide ((0 : Nat) = 1) := by
  obtain ⟨r, e⟩ := list_head h
  rw [e]
  refine ⟨?_, ?_⟩
  · show (if s[0] = 45 then r else s[0] :: r) = _
    rw [if_neg hx]; rfl
  · show (s[0] == 45) = _
    rw [beq_eq_false_iff_ne.2 hx]; rfl
set_option maxRecDepth 100000 in
set_option maxHeartbeats 4000000 in
theorem num_empty (s : ByteArray) (hs : s.size ≤ 9999) (h0 : s.size = 0) (w : World) :
    Calls Tryd.prog 46 #[.string s] w (NumPost s w) := by
  obtain ⟨ht, hg⟩ := tail_empty h0
  go_enter Tryd.func46, Tryd.ntmps46
  go_wp2_with fail
  clear h0
  go_loopw [4, 6] (fun n i wr => ∃ m : Nat, Below w.heap.size w wr ∧ 0 ≤ m ∧ m ≤ 0 + 10 ∧ m ≤ s.size ∧ i = .int .i64 m ∧ n = .int .i64 ((valF 0 ((s.data.toList.drop 0).take (m - 0)) : Nat) : Int) ∧ ((s.data.toList.drop 0).take (m - 0)).all isD = true) (fun _ i _ => s.size - (intOf i).toNat)
  case atStart => exact ⟨0, Below.refl _ _, by omega, by omega, by omega, rfl, by rw [Nat.sub_self, List.take_zero]; rfl, by rw [Nat.sub_self, List.take_zero]; rfl⟩
  case round =>
    obtain ⟨m, hb0, hfm, hm10, hms, rfl, rfl, hD⟩ := hrel
    have HB := Lib.hid hb0
    clear hb0
    by_cases hlt : m < s.size
    · by_cases hlt2 : m < 0 + 10
      · have hk1 : (m : Int) < (s.size : Int) := by omega
        have hk2 : (m : Int) < 10 := by omega
        have hk0 : (0 : Int) ≤ (m : Int) := by omega
        have i1 : ∀ W, (Instr.index 9 (.string s) (.int .i64 (m : Int))).run Tryd.prog W = .ok (.int .u8 ((s[m]'hlt).toNat : Int)) W := fun W => by
          rw [run_index_string W 9 s .i64 m Tryd.underlying9, dif_pos ⟨by omega, by omega⟩]
          simp
        obtain ⟨hv, hall⟩ := dig_step hfm hlt
        have hb := ref_lt9 (f := 0) hlt2 hfm hD
        have hbad := dig_bad (f := 0) ht hfm hlt2 hlt
        generalize s[m]'hlt = x at *
        generalize hV : valF 0 ((s.data.toList.drop 0).take (m - 0)) = V at *
        cases hx : isD x with
        | true =>
          have hx' := hx
          unfold isD at hx'
          simp only [Bool.and_eq_true, decide_eq_true_eq] at hx'
          obtain ⟨hx1, hx2⟩ := hx'
          have t1 : decide ((x.toNat : Int) < 48) = false := decide_eq_false (by omega)
          have t2 : decide ((57 : Int) < (x.toNat : Int)) = false := decide_eq_false (by omega)
          have hw1 : IntKind.u8.wrap ((x.toNat : Int) - 48) = (x.toNat : Int) - 48 := wrap_u8 (by omega) (by omega)
          have hw2 : IntKind.i64.wrap ((x.toNat : Int) - 48) = (x.toNat : Int) - 48 := IntWalk.i64_in _ ⟨by omega, by omega⟩
          have hw3 : IntKind.i64.wrap (10 * (V : Int)) = 10 * (V : Int) := IntWalk.i64_in _ ⟨by omega, by omega⟩
          have hw4 : IntKind.i64.wrap (10 * (V : Int) + ((x.toNat : Int) - 48)) = 10 * (V : Int) + ((x.toNat : Int) - 48) := IntWalk.i64_in _ ⟨by omega, by omega⟩
          have HV := Lib.hid hv
          have HA := Lib.hid (hall hx hD)
          clear hv hall hD hbad hV ht hg
          go_wp2_with fail
          go_roundw
          case rel => exact ⟨m + 1, HB.out, by omega, by omega, by omega, by push_cast; rfl, by rw [HV.out]; congr 1; omega, HA.out⟩
          case measure => simp [intOf]; omega
        | false =>
          have HN := Lib.hid (hbad hx)
          clear hv hall hD hbad hV ht hg
          by_cases h48 : x.toNat < 48
          · have t1 : decide ((x.toNat : Int) < 48) = true := decide_eq_true (by omega)
            go_wp2_with fail
            go_ret2
            exact numNo HN.out _ HB.out
          · have t1 : decide ((x.toNat : Int) < 48) = false := decide_eq_false (by omega)
            have h57 : 57 < x.toNat := by
              unfold isD at hx
              simp only [Bool.and_eq_false_iff, decide_eq_false_iff_not] at hx
              omega
            have t2 : decide ((57 : Int) < (x.toNat : Int)) = true := decide_eq_true (by omega)
            go_wp2_with fail
            go_ret2
            exact numNo HN.out _ HB.out
      · have hme : m = s.size ∨ m = 0 + 10 := by omega
        have hk1 : (m : Int) < (s.size : Int) := by omega
        have tq : m = 10 := by omega
        obtain ⟨hval, hsome⟩ := ref_end (f := 0) (m := m) ht hg hfm hme hm10 hms hD
        have hlt := ref_lt (f := 0) hm10 hD
        generalize valF 0 ((s.data.toList.drop 0).take (m - 0)) = V at hval hlt ⊢
        have HV := Lib.hid hval
        have HS := Lib.hid hsome
        have HDG := Lib.hid (digits_any ((V : Int)) (wf_of ⟨by omega, by omega⟩))
        unfold DigPost at HDG
        have hws : IntKind.i64.wrap (s.size : Int) = (s.size : Int) := IntWalk.i64_in _ ⟨by omega, by omega⟩
        have hws1 : IntKind.i64.wrap ((s.size : Int) - 1) = (s.size : Int) - 1 := IntWalk.i64_in _ ⟨by omega, by omega⟩
        clear hval hsome hD hme hg ht
        have h9 : ¬ s.size - 0 ≤ 9 := by omega
        have t9 : decide ((s.size : Int) ≤ 9) = false := decide_eq_false (by omega)
        have HN := Lib.hid (num_none (show (numV s).isSome = false by rw [HS.out, decide_eq_false h9, Bool.false_and]))
        go_wp2_with fail
        go_ret2
        exact numNo HN.out _ (by (repeat (first | with_reducible assumption | with_reducible exact HB.out | with_reducible exact Below.refl _ _ | with_reducible refine Below.drew ?_ | with_reducible refine below_drewN ?_ _ | with_reducible refine Below.alloc ?_ (by first | exact Nat.le_refl _ | assumption | omega | (simp; omega)) _ | with_reducible refine below_storeRow ?_ (by (rw [hzc]; first | with_reducible assumption | exact hasRow_new _ _ rfl)) (by first | exact Nat.le_refl _ | assumption))))
    · have hme : m = s.size ∨ m = 0 + 10 := by omega
      have tq : m = s.size := by omega
      obtain ⟨hval, hsome⟩ := ref_end (f := 0) (m := m) ht hg hfm hme hm10 hms hD
      have hlt := ref_lt (f := 0) hm10 hD
      generalize valF 0 ((s.data.toList.drop 0).take (m - 0)) = V at hval hlt ⊢
      have HV := Lib.hid hval
      have HS := Lib.hid hsome
      have HDG := Lib.hid (digits_any ((V : Int)) (wf_of ⟨by omega, by omega⟩))
      unfold DigPost at HDG
      have hws : IntKind.i64.wrap (s.size : Int) = (s.size : Int) := IntWalk.i64_in _ ⟨by omega, by omega⟩
      have hws1 : IntKind.i64.wrap ((s.size : Int) - 1) = (s.size : Int) - 1 := IntWalk.i64_in _ ⟨by omega, by omega⟩
      clear hval hsome hD hme hg ht
      by_cases h9 : s.size - 0 ≤ 9
      · have t9 : decide ((s.size : Int) ≤ 9) = true := decide_eq_true (by omega)
        go_wp2_with fail
        refine (HDG.out _).mono ?_
        rintro e w8 ⟨rfl, hbj⟩
        replace HB := Lib.hid (HB.out.trans (hbj.mono HB.out.size))
        clear hbj
        go_wp2_with fail
        go_ret2
        exact num_end HV.out (by rw [HS.out, decide_eq_true h9, Bool.true_and]) HB.out
      · have t9 : decide ((s.size : Int) ≤ 9) = false := decide_eq_false (by omega)
        have HN := Lib.hid (num_none (show (numV s).isSome = false by rw [HS.out, decide_eq_false h9, Bool.false_and]))
        go_wp2_with fail
        go_ret2
        exact numNo HN.out _ (by (repeat (first | with_reducible assumption | with_reducible exact HB.out | with_reducible exact Below.refl _ _ | with_reducible refine Below.drew ?_ | with_reducible refine below_drewN ?_ _ | with_reducible refine Below.alloc ?_ (by first | exact Nat.le_refl _ | assumption | omega | (simp; omega)) _ | with_reducible refine below_storeRow ?_ (by (rw [hzc]; first | with_reducible assumption | exact hasRow_new _ _ rfl)) (by first | exact Nat.le_refl _ | assumption))))
set_option maxRecDepth 100000 in
set_option maxHeartbeats 4000000 in
theorem num_neg (s : ByteArray) (hs : s.size ≤ 9999) (h0 : 0 < s.size) (hx : s[0] = 45) (w : World) :
    Calls Tryd.prog 46 #[.string s] w (NumPost s w) := by
  obtain ⟨ht, hg⟩ := tail_neg h0 hx
  have i0 : ∀ W, (Instr.index 9 (.string s) (.int .i64 0)).run Tryd.prog W = .ok (.int .u8 ((s[0]'h0).toNat : Int)) W := fun W => by
    rw [run_index_string W 9 s .i64 0 Tryd.underlying9, dif_pos ⟨by omega, by omega⟩]
    simp
  have t0 : (((s[0]'h0).toNat : Int) == 45) = true := by rw [hx]; rfl
  go_enter Tryd.func46, Tryd.ntmps46
  go_wp2_with fail
  skip
  go_loopw [4, 6] (fun n i wr => ∃ m : Nat, Below w.heap.size w wr ∧ 1 ≤ m ∧ m ≤ 1 + 10 ∧ m ≤ s.size ∧ i = .int .i64 m ∧ n = .int .i64 ((valF 0 ((s.data.toList.drop 1).take (m - 1)) : Nat) : Int) ∧ ((s.data.toList.drop 1).take (m - 1)).all isD = true) (fun _ i _ => s.size - (intOf i).toNat)
  case atStart => exact ⟨1, Below.refl _ _, by omega, by omega, by omega, rfl, by rw [Nat.sub_self, List.take_zero]; rfl, by rw [Nat.sub_self, List.take_zero]; rfl⟩
  case round =>
    obtain ⟨m, hb0, hfm, hm10, hms, rfl, rfl, hD⟩ := hrel
    have HB := Lib.hid hb0
    clear hb0
    by_cases hlt : m < s.size
    · by_cases hlt2 : m < 1 + 10
      · have hk1 : (m : Int) < (s.size : Int) := by omega
        have hk2 : (m : Int) < 11 := by omega
        have hk0 : (0 : Int) ≤ (m : Int) := by omega
        have i1 : ∀ W, (Instr.index 9 (.string s) (.int .i64 (m : Int))).run Tryd.prog W = .ok (.int .u8 ((s[m]'hlt).toNat : Int)) W := fun W => by
          rw [run_index_string W 9 s .i64 m Tryd.underlying9, dif_pos ⟨by omega, by omega⟩]
          simp
        obtain ⟨hv, hall⟩ := dig_step hfm hlt
        have hb := ref_lt9 (f := 1) hlt2 hfm hD
        have hbad := dig_bad (f := 1) ht hfm hlt2 hlt
        generalize s[m]'hlt = x at *
        generalize hV : valF 0 ((s.data.toList.drop 1).take (m - 1)) = V at *
        cases hx : isD x with
        | true =>
          have hx' := hx
          unfold isD at hx'
          simp only [Bool.and_eq_true, decide_eq_true_eq] at hx'
          obtain ⟨hx1, hx2⟩ := hx'
          have t1 : decide ((x.toNat : Int) < 48) = false := decide_eq_false (by omega)
          have t2 : decide ((57 : Int) < (x.toNat : Int)) = false := decide_eq_false (by omega)
          have hw1 : IntKind.u8.wrap ((x.toNat : Int) - 48) = (x.toNat : Int) - 48 := wrap_u8 (by omega) (by omega)
          have hw2 : IntKind.i64.wrap ((x.toNat : Int) - 48) = (x.toNat : Int) - 48 := IntWalk.i64_in _ ⟨by omega, by omega⟩
          have hw3 : IntKind.i64.wrap (10 * (V : Int)) = 10 * (V : Int) := IntWalk.i64_in _ ⟨by omega, by omega⟩
          have hw4 : IntKind.i64.wrap (10 * (V : Int) + ((x.toNat : Int) - 48)) = 10 * (V : Int) + ((x.toNat : Int) - 48) := IntWalk.i64_in _ ⟨by omega, by omega⟩
          have HV := Lib.hid hv
          have HA := Lib.hid (hall hx hD)
          clear hv hall hD hbad hV ht hg
          go_wp2_with fail
          go_roundw
          case rel => exact ⟨m + 1, HB.out, by omega, by omega, by omega, by push_cast; rfl, by rw [HV.out]; congr 1; omega, HA.out⟩
          case measure => simp [intOf]; omega
        | false =>
          have HN := Lib.hid (hbad hx)
          clear hv hall hD hbad hV ht hg
          by_cases h48 : x.toNat < 48
          · have t1 : decide ((x.toNat : Int) < 48) = true := decide_eq_true (by omega)
            go_wp2_with fail
            go_ret2
            exact numNo HN.out _ HB.out
          · have t1 : decide ((x.toNat : Int) < 48) = false := decide_eq_false (by omega)
            have h57 : 57 < x.toNat := by
              unfold isD at hx
              simp only [Bool.and_eq_false_iff, decide_eq_false_iff_not] at hx
              omega
            have t2 : decide ((57 : Int) < (x.toNat : Int)) = true := decide_eq_true (by omega)
            go_wp2_with fail
            go_ret2
            exact numNo HN.out _ HB.out
      · have hme : m = s.size ∨ m = 1 + 10 := by omega
        have hk1 : (m : Int) < (s.size : Int) := by omega
        have tq : m = 11 := by omega
        obtain ⟨hval, hsome⟩ := ref_end (f := 1) (m := m) ht hg hfm hme hm10 hms hD
        have hlt := ref_lt (f := 1) hm10 hD
        generalize valF 0 ((s.data.toList.drop 1).take (m - 1)) = V at hval hlt ⊢
        have HV := Lib.hid hval
        have HS := Lib.hid hsome
        have HDG := Lib.hid (digits_any (-(V : Int)) (wf_of ⟨by omega, by omega⟩))
        unfold DigPost at HDG
        have hws : IntKind.i64.wrap (s.size : Int) = (s.size : Int) := IntWalk.i64_in _ ⟨by omega, by omega⟩
        have hws1 : IntKind.i64.wrap ((s.size : Int) - 1) = (s.size : Int) - 1 := IntWalk.i64_in _ ⟨by omega, by omega⟩
        have hwn : IntKind.i64.wrap (-(V : Int)) = -(V : Int) := IntWalk.i64_in _ ⟨by omega, by omega⟩
        clear hval hsome hD hme hg ht
        have h9 : ¬ s.size - 1 ≤ 9 := by omega
        have t9 : decide (((s.size : Int) - 1) ≤ 9) = false := decide_eq_false (by omega)
        have HN := Lib.hid (num_none (show (numV s).isSome = false by rw [HS.out, decide_eq_false h9, Bool.false_and]))
        go_wp2_with fail
        go_ret2
        exact numNo HN.out _ (by (repeat (first | with_reducible assumption | with_reducible exact HB.out | with_reducible exact Below.refl _ _ | with_reducible refine Below.drew ?_ | with_reducible refine below_drewN ?_ _ | with_reducible refine Below.alloc ?_ (by first | exact Nat.le_refl _ | assumption | omega | (simp; omega)) _ | with_reducible refine below_storeRow ?_ (by (rw [hzc]; first | with_reducible assumption | exact hasRow_new _ _ rfl)) (by first | exact Nat.le_refl _ | assumption))))
    · have hme : m = s.size ∨ m = 1 + 10 := by omega
      have tq : m = s.size := by omega
      obtain ⟨hval, hsome⟩ := ref_end (f := 1) (m := m) ht hg hfm hme hm10 hms hD
      have hlt := ref_lt (f := 1) hm10 hD
      generalize valF 0 ((s.data.toList.drop 1).take (m - 1)) = V at hval hlt ⊢
      have HV := Lib.hid hval
      have HS := Lib.hid hsome
      have HDG := Lib.hid (digits_any (-(V : Int)) (wf_of ⟨by omega, by omega⟩))
      unfold DigPost at HDG
      have hws : IntKind.i64.wrap (s.size : Int) = (s.size : Int) := IntWalk.i64_in _ ⟨by omega, by omega⟩
      have hws1 : IntKind.i64.wrap ((s.size : Int) - 1) = (s.size : Int) - 1 := IntWalk.i64_in _ ⟨by omega, by omega⟩
      have hwn : IntKind.i64.wrap (-(V : Int)) = -(V : Int) := IntWalk.i64_in _ ⟨by omega, by omega⟩
      clear hval hsome hD hme hg ht
      by_cases h9 : s.size - 1 ≤ 9
      · have t9 : decide (((s.size : Int) - 1) ≤ 9) = true := decide_eq_true (by omega)
        go_wp2_with fail
        refine (HDG.out _).mono ?_
        rintro e w8 ⟨rfl, hbj⟩
        replace HB := Lib.hid (HB.out.trans (hbj.mono HB.out.size))
        clear hbj
        go_wp2_with fail
        go_ret2
        exact num_end HV.out (by rw [HS.out, decide_eq_true h9, Bool.true_and]) HB.out
      · have t9 : decide (((s.size : Int) - 1) ≤ 9) = false := decide_eq_false (by omega)
        have HN := Lib.hid (num_none (show (numV s).isSome = false by rw [HS.out, decide_eq_false h9, Bool.false_and]))
        go_wp2_with fail
        go_ret2
        exact numNo HN.out _ (by (repeat (first | with_reducible assumption | with_reducible exact HB.out | with_reducible exact Below.refl _ _ | with_reducible refine Below.drew ?_ | with_reducible refine below_drewN ?_ _ | with_reducible refine Below.alloc ?_ (by first | exact Nat.le_refl _ | assumption | omega | (simp; omega)) _ | with_reducible refine below_storeRow ?_ (by (rw [hzc]; first | with_reducible assumption | exact hasRow_new _ _ rfl)) (by first | exact Nat.le_refl _ | assumption))))
set_option maxRecDepth 100000 in
set_option maxHeartbeats 4000000 in
theorem num_pos (s : ByteArray) (hs : s.size ≤ 9999) (h0 : 0 < s.size) (hx : s[0] ≠ 45) (w : World) :
    Calls Tryd.prog 46 #[.string s] w (NumPost s w) := by
  obtain ⟨ht, hg⟩ := tail_pos h0 hx
  have i0 : ∀ W, (Instr.index 9 (.string s) (.int .i64 0)).run Tryd.prog W = .ok (.int .u8 ((s[0]'h0).toNat : Int)) W := fun W => by
    rw [run_index_string W 9 s .i64 0 Tryd.underlying9, dif_pos ⟨by omega, by omega⟩]
    simp
  have t0 : (((s[0]'h0).toNat : Int) == 45) = false := by
    rw [beq_eq_false_iff_ne]
    intro e
    exact hx (UInt8.toNat_inj.1 (show (s[0]'h0).toNat = 45 by omega))
  go_enter Tryd.func46, Tryd.ntmps46
  go_wp2_with fail
  skip
  go_loopw [4, 6] (fun n i wr => ∃ m : Nat, Below w.heap.size w wr ∧ 0 ≤ m ∧ m ≤ 0 + 10 ∧ m ≤ s.size ∧ i = .int .i64 m ∧ n = .int .i64 ((valF 0 ((s.data.toList.drop 0).take (m - 0)) : Nat) : Int) ∧ ((s.data.toList.drop 0).take (m - 0)).all isD = true) (fun _ i _ => s.size - (intOf i).toNat)
  case atStart => exact ⟨0, Below.refl _ _, by omega, by omega, by omega, rfl, by rw [Nat.sub_self, List.take_zero]; rfl, by rw [Nat.sub_self, List.take_zero]; rfl⟩
  case round =>
    obtain ⟨m, hb0, hfm, hm10, hms, rfl, rfl, hD⟩ := hrel
    have HB := Lib.hid hb0
    clear hb0
    by_cases hlt : m < s.size
    · by_cases hlt2 : m < 0 + 10
      · have hk1 : (m : Int) < (s.size : Int) := by omega
        have hk2 : (m : Int) < 10 := by omega
        have hk0 : (0 : Int) ≤ (m : Int) := by omega
        have i1 : ∀ W, (Instr.index 9 (.string s) (.int .i64 (m : Int))).run Tryd.prog W = .ok (.int .u8 ((s[m]'hlt).toNat : Int)) W := fun W => by
          rw [run_index_string W 9 s .i64 m Tryd.underlying9, dif_pos ⟨by omega, by omega⟩]
          simp
        obtain ⟨hv, hall⟩ := dig_step hfm hlt
        have hb := ref_lt9 (f := 0) hlt2 hfm hD
        have hbad := dig_bad (f := 0) ht hfm hlt2 hlt
        generalize s[m]'hlt = x at *
        generalize hV : valF 0 ((s.data.toList.drop 0).take (m - 0)) = V at *
        cases hx : isD x with
        | true =>
          have hx' := hx
          unfold isD at hx'
          simp only [Bool.and_eq_true, decide_eq_true_eq] at hx'
          obtain ⟨hx1, hx2⟩ := hx'
          have t1 : decide ((x.toNat : Int) < 48) = false := decide_eq_false (by omega)
          have t2 : decide ((57 : Int) < (x.toNat : Int)) = false := decide_eq_false (by omega)
          have hw1 : IntKind.u8.wrap ((x.toNat : Int) - 48) = (x.toNat : Int) - 48 := wrap_u8 (by omega) (by omega)
          have hw2 : IntKind.i64.wrap ((x.toNat : Int) - 48) = (x.toNat : Int) - 48 := IntWalk.i64_in _ ⟨by omega, by omega⟩
          have hw3 : IntKind.i64.wrap (10 * (V : Int)) = 10 * (V : Int) := IntWalk.i64_in _ ⟨by omega, by omega⟩
          have hw4 : IntKind.i64.wrap (10 * (V : Int) + ((x.toNat : Int) - 48)) = 10 * (V : Int) + ((x.toNat : Int) - 48) := IntWalk.i64_in _ ⟨by omega, by omega⟩
          have HV := Lib.hid hv
          have HA := Lib.hid (hall hx hD)
          clear hv hall hD hbad hV ht hg
          go_wp2_with fail
          go_roundw
          case rel => exact ⟨m + 1, HB.out, by omega, by omega, by omega, by push_cast; rfl, by rw [HV.out]; congr 1; omega, HA.out⟩
          case measure => simp [intOf]; omega
        | false =>
          have HN := Lib.hid (hbad hx)
          clear hv hall hD hbad hV ht hg
          by_cases h48 : x.toNat < 48
          · have t1 : decide ((x.toNat : Int) < 48) = true := decide_eq_true (by omega)
            go_wp2_with fail
            go_ret2
            exact numNo HN.out _ HB.out
          · have t1 : decide ((x.toNat : Int) < 48) = false := decide_eq_false (by omega)
            have h57 : 57 < x.toNat := by
              unfold isD at hx
              simp only [Bool.and_eq_false_iff, decide_eq_false_iff_not] at hx
              omega
            have t2 : decide ((57 : Int) < (x.toNat : Int)) = true := decide_eq_true (by omega)
            go_wp2_with fail
            go_ret2
            exact numNo HN.out _ HB.out
      · have hme : m = s.size ∨ m = 0 + 10 := by omega
        have hk1 : (m : Int) < (s.size : Int) := by omega
        have tq : m = 10 := by omega
        obtain ⟨hval, hsome⟩ := ref_end (f := 0) (m := m) ht hg hfm hme hm10 hms hD
        have hlt := ref_lt (f := 0) hm10 hD
        generalize valF 0 ((s.data.toList.drop 0).take (m - 0)) = V at hval hlt ⊢
        have HV := Lib.hid hval
        have HS := Lib.hid hsome
        have HDG := Lib.hid (digits_any ((V : Int)) (wf_of ⟨by omega, by omega⟩))
        unfold DigPost at HDG
        have hws : IntKind.i64.wrap (s.size : Int) = (s.size : Int) := IntWalk.i64_in _ ⟨by omega, by omega⟩
        have hws1 : IntKind.i64.wrap ((s.size : Int) - 1) = (s.size : Int) - 1 := IntWalk.i64_in _ ⟨by omega, by omega⟩
        clear hval hsome hD hme hg ht
        have h9 : ¬ s.size - 0 ≤ 9 := by omega
        have t9 : decide ((s.size : Int) ≤ 9) = false := decide_eq_false (by omega)
        have HN := Lib.hid (num_none (show (numV s).isSome = false by rw [HS.out, decide_eq_false h9, Bool.false_and]))
        go_wp2_with fail
        go_ret2
        exact numNo HN.out _ (by (repeat (first | with_reducible assumption | with_reducible exact HB.out | with_reducible exact Below.refl _ _ | with_reducible refine Below.drew ?_ | with_reducible refine below_drewN ?_ _ | with_reducible refine Below.alloc ?_ (by first | exact Nat.le_refl _ | assumption | omega | (simp; omega)) _ | with_reducible refine below_storeRow ?_ (by (rw [hzc]; first | with_reducible assumption | exact hasRow_new _ _ rfl)) (by first | exact Nat.le_refl _ | assumption))))
    · have hme : m = s.size ∨ m = 0 + 10 := by omega
      have tq : m = s.size := by omega
      obtain ⟨hval, hsome⟩ := ref_end (f := 0) (m := m) ht hg hfm hme hm10 hms hD
      have hlt := ref_lt (f := 0) hm10 hD
      generalize valF 0 ((s.data.toList.drop 0).take (m - 0)) = V at hval hlt ⊢
      have HV := Lib.hid hval
      have HS := Lib.hid hsome
      have HDG := Lib.hid (digits_any ((V : Int)) (wf_of ⟨by omega, by omega⟩))
      unfold DigPost at HDG
      have hws : IntKind.i64.wrap (s.size : Int) = (s.size : Int) := IntWalk.i64_in _ ⟨by omega, by omega⟩
      have hws1 : IntKind.i64.wrap ((s.size : Int) - 1) = (s.size : Int) - 1 := IntWalk.i64_in _ ⟨by omega, by omega⟩
      clear hval hsome hD hme hg ht
      by_cases h9 : s.size - 0 ≤ 9
      · have t9 : decide ((s.size : Int) ≤ 9) = true := decide_eq_true (by omega)
        go_wp2_with fail
        refine (HDG.out _).mono ?_
        rintro e w8 ⟨rfl, hbj⟩
        replace HB := Lib.hid (HB.out.trans (hbj.mono HB.out.size))
        clear hbj
        go_wp2_with fail
        go_ret2
        exact num_end HV.out (by rw [HS.out, decide_eq_true h9, Bool.true_and]) HB.out
      · have t9 : decide ((s.size : Int) ≤ 9) = false := decide_eq_false (by omega)
        have HN := Lib.hid (num_none (show (numV s).isSome = false by rw [HS.out, decide_eq_false h9, Bool.false_and]))
        go_wp2_with fail
        go_ret2
        exact numNo HN.out _ (by (repeat (first | with_reducible assumption | with_reducible exact HB.out | with_reducible exact Below.refl _ _ | with_reducible refine Below.drew ?_ | with_reducible refine below_drewN ?_ _ | with_reducible refine Below.alloc ?_ (by first | exact Nat.le_refl _ | assumption | omega | (simp; omega)) _ | with_reducible refine below_storeRow ?_ (by (rw [hzc]; first | with_reducible assumption | exact hasRow_new _ _ rfl)) (by first | exact Nat.le_refl _ | assumption))))
theorem refnumber_any (s : ByteArray) (hs : s.size ≤ 9999) (w : World) : Calls Tryd.prog 46 #[.string s] w (NumPost s w) := by
  by_cases h0 : s.size = 0
  · exact num_empty s hs h0 w
  · by_cases hx : s[0]'(by omega) = 45
    · exact num_neg s hs (by omega) hx w
    · exact num_pos s hs (by omega) hx w
end Go.Proofs.YthalpaggcdpcbaaDoor.Cf
