/- TraceOf. -/
import Derived.Test.YthalpaggcdpcbaaDoorTrOc
import Derived.Test.YthalpaggcdpcbaaDoorTrS
import Derived.Test.YthalpaggcdpcbaaDoorTrW
import Derived.Deep.QuietTactic
import Derived.BigQuiet
namespace Go.Proofs.YthalpaggcdpcbaaDoor.Tr
open Go.RowKit Go.Proofs.YthalpaggcdpcbaaDoor Go.Proofs.YthalpaggcdpcbaaDoor.Nm Go.Proofs.YthalpaggcdpcbaaDoor.Cf
attribute [local go_sem high] eqOut
theorem filter_at {α : Type} {q : α → Bool} {L : List α} {j : Nat} {o : α} (ho : L[j]? = some o) (hq : q o = true) : (L.filter q)[((L.take j).filter q).length]? = some o := by
  obtain ⟨hlt, he⟩ := List.getElem?_eq_some_iff.1 ho
  have hL : L = L.take j ++ o :: L.drop (j + 1) := by rw [← he, ← List.drop_eq_getElem_cons hlt, List.take_append_drop]
  have : L.filter q = (L.take j).filter q ++ o :: (L.drop (j + 1)).filter q := by
    conv => lhs; rw [hL]
    rw [List.filter_append, List.filter_cons, if_pos hq]
  rw [this, List.getElem?_append_right (Nat.le_refl _), Nat.sub_self]
  rfl
theorem filter_more {α : Type} {q : α → Bool} {L : List α} {j : Nat} {o : α} (ho : L[j]? = some o) : ((L.take (j + 1)).filter q).length = ((L.take j).filter q).length + if q o = true then 1 else 0 := by
  obtain ⟨hlt, he⟩ := List.getElem?_eq_some_iff.1 ho
  rw [List.take_succ_eq_append_getElem hlt, List.filter_append, he, List.length_append]
  by_cases h : q o = true
  · simp [h]
  · simp [h]
theorem outs_cut {w : World} {A : Option Addr} {c : Nat} {L : List OutV} (h : OutsAt w A L) (k : Nat) (hc : L.length ≤ c) :
    ∃ (m : Int) (A' : Option Addr), (∀ W ats ty, (Builtin.min_ ats ty #[.int .i64 (L.length : Int), .int .i64 (k : Int)]).run Tryd.prog W = .ok (.int .i64 m) W) ∧ (∀ W, (Instr.slice 22 (.slice A L.length c) none (some (.int .i64 m)) none).run Tryd.prog W = .ok (.slice A' (L.take k).length c) W) ∧ OutsAt w A' (L.take k) := by
  refine ⟨if (k : Int) < (L.length : Int) then k else L.length, if c = 0 then A else A.map (·.add (0 * 5)), fun W ats ty => min_is2 _ _ _ _ _, fun W => ?_, fun j o hj => ?_⟩
  · have e : (if (k : Int) < (L.length : Int) then (k : Int) else L.length) = (((L.take k).length : Nat) : Int) := by
      rw [List.length_take]
      split <;> omega
    rw [e]
    have h1 : (L.take k).length ≤ c := by rw [List.length_take]; omega
    generalize (L.take k).length = m at *
    have hz : ∀ w, (sizeOf 27).run Tryd.prog w = .ok 5 w := fun w => by kernel_rfl
    have h2 : (m : Int) ≤ (c : Int) := by omega
    simp [Instr.slice, run_underlying Tryd.underlying22, Instr.sliceBounds, run_sliceBound, hz, h2]
  · have hj2 : L[j]? = some o := by
      rw [List.getElem?_take] at hj
      split at hj
      · exact hj
      · cases hj
    obtain ⟨g, off, rfl, hcs⟩ := h j o hj2
    refine ⟨g, off, ?_, hcs⟩
    split
    · rfl
    · simp [addr_add]
set_option maxRecDepth 100000 in
set_option maxHeartbeats 8000000 in
theorem of_walk (w : World) (A0 : Option Addr) (c : Nat) (L0 : List OutV) (k id : Int) (h0 : OutsAt w A0 L0) (hc0 : L0.length ≤ c) (hv : VarsC w) :
    Calls Tryd.prog 6 #[.slice A0 L0.length c, .int .i64 k, .int .i64 id] w fun e w' => e = .returned (.bool true) ∧ Below w.heap.size w w' := by
  obtain ⟨m, A, hmin, hsl, hat⟩ := outs_cut h0 30 hc0
  replace hmin : ∀ W ats ty, (Builtin.min_ ats ty #[.int .i64 (L0.length : Int), .int .i64 30]).run Tryd.prog W = .ok (.int .i64 m) W := hmin
  have hl30 : (L0.take 30).length ≤ 30 := by rw [List.length_take]; omega
  generalize L0.take 30 = L at *
  have HA := Lib.hid hat
  have HL := Lib.hid (lives_any w hv)
  have HOF := Lib.hid (fun W h => of_any W A c L k id (by omega) h)
  unfold OfPost at HOF
  clear hat hv h0 hc0
  go_enter Tryd.func6, Tryd.ntmps6
  go_wp2_with fail
  refine HL.out.mono ?_
  rintro e w1 ⟨rfl, b1⟩
  have B1 := Lib.hid (show B w w1 from b1)
  clear b1 HL
  go_wp2_with fail
  refine (HOF.out _ (HA.out.below (by repeat (first | with_reducible exact B1.out | refine B_drew ?_ | refine B_drewN ?_ _)))).mono ?_
  rintro e w2 ⟨A2, c2, rfl, hkc, ho2, b2⟩
  have B2 := Lib.hid (show B w w2 from (B_trans (by first | exact B1.out | exact B_drew B1.out | exact B_drewN B1.out _) b2))
  have HA2 := Lib.hid (HA.out.below B2.out)
  have HK2 := Lib.hid ho2
  have HFA := Lib.hid (fun (j : Nat) (o : OutV) (h1 : L[j]? = some o) (h2 : (!ofB k id o) = true) => (show (keepO (ofB k id) L)[((L.take j).filter (fun x => !ofB k id x)).length]? = some o from filter_at (q := fun x => !ofB k id x) h1 h2))
  have HFM := Lib.hid (fun (j : Nat) (o : OutV) (h1 : L[j]? = some o) => filter_more (q := fun x => !ofB k id x) h1)
  have HFE := Lib.hid (show ((L.take L.length).filter (fun x => !ofB k id x)).length = (keepO (ofB k id) L).length by rw [List.take_length]; rfl)
  clear ho2 b2 HOF HA B1
  have hk30 : (keepO (ofB k id) L).length ≤ 30 := Nat.le_trans (List.length_filter_le _ _) hl30
  generalize keepO (ofB k id) L = K at *
  go_wp2_with fail
  go_loopw [8, 9] (fun s8 s9 wr => ∃ j : Nat, j ≤ L.length ∧ s9 = .int .i64 j ∧ s8 = .int .i64 (((L.take j).filter (fun x => !ofB k id x)).length : Nat) ∧ B w2 wr) (fun _ i _ => L.length - (intOf i).toNat)
  case atStart => exact ⟨0, Nat.zero_le _, rfl, rfl, by repeat (first | with_reducible exact B_refl _ | refine B_drew ?_ | refine B_drewN ?_ _)⟩
  case round =>
    obtain ⟨j, hj, rfl, rfl, hr⟩ := hrel
    have BR := Lib.hid hr
    clear hr
    by_cases hjm : j < L.length
    · obtain ⟨o, ho⟩ : ∃ o, L[j]? = some o := ⟨_, List.getElem?_eq_getElem hjm⟩
      obtain ⟨g, off, rfl, a0, a1, a2, a3, a4⟩ := (HA2.out.below BR.out) j o ho
      have HM := Lib.hid (HFM.out j o ho)
      have HAT := Lib.hid (HFA.out j o ho)
      clear ho
      generalize ((L.take j).filter (fun x => !ofB k id x)).length = kk at *
      obtain ⟨ok, oi, of, od, ot⟩ := o
      dsimp only at HM HAT a0 a1 a2 a3 a4
      by_cases hq : ok = k ∧ oi = id
      · obtain ⟨rfl, rfl⟩ := hq
        have HKK := Lib.hid (HAT.out (by simp [ofB]))
        have hk1 := HM.out
        rw [if_pos (by simp [ofB])] at hk1
        have hklt := (List.getElem?_eq_some_iff.1 HKK.out).1
        obtain ⟨g2, off2, rfl, d0, d1, d2, d3, d4⟩ := (HK2.out.below BR.out) kk _ HKK.out
        dsimp only at d0 d1 d2 d3 d4
        have t0 : (ok == ok) = true := beq_self_eq_true _
        have t1 : (oi == oi) = true := beq_self_eq_true _
        have t2 : decide ((K.length : Int) ≤ (kk : Int)) = false := decide_eq_false (by omega)
        have HK1 := Lib.hid hk1
        clear hk1
        go_wp2_with fail
        go_quiet (fail)
        all_goals
          go_wp2_with fail
          go_roundw
          case rel => exact ⟨j + 1, by omega, by push_cast; rfl, by rw [HK1.out]; push_cast; rfl, by repeat (first | with_reducible exact BR.out | refine B_drew ?_ | refine B_drewN ?_ _)⟩
          case measure => simp [intOf]; omega
      · have hk1 := HM.out
        rw [if_neg (by simp [ofB]; omega)] at hk1
        have HK1 := Lib.hid hk1
        clear hk1
        by_cases hq1 : ok = k
        · have t0 : (ok == k) = true := beq_iff_eq.2 hq1
          have t1 : (oi == id) = false := beq_eq_false_iff_ne.2 (fun e => hq ⟨hq1, e⟩)
          clear hq hq1
          go_wp2_with fail
          go_roundw
          case rel => exact ⟨j + 1, by omega, by push_cast; rfl, by rw [HK1.out]; rfl, by repeat (first | with_reducible exact BR.out | refine B_drew ?_ | refine B_drewN ?_ _)⟩
          case measure => simp [intOf]; omega
        · have t0 : (ok == k) = false := beq_eq_false_iff_ne.2 hq1
          clear hq hq1
          go_wp2_with fail
          go_roundw
          case rel => exact ⟨j + 1, by omega, by push_cast; rfl, by rw [HK1.out]; rfl, by repeat (first | with_reducible exact BR.out | refine B_drew ?_ | refine B_drewN ?_ _)⟩
          case measure => simp [intOf]; omega
    · obtain rfl : j = L.length := by omega
      rw [HFE.out]
      have t0 : ((K.length : Int) == (K.length : Int)) = true := beq_self_eq_true _
      go_wp2_with fail
      go_ret
      exact ⟨rfl, by repeat (first | with_reducible exact B_trans B2.out BR.out | refine B_drew ?_ | refine B_drewN ?_ _)⟩
theorem walk_TraceOf (W : World) (a : Option Addr) (len cap : Nat) (hcap : len ≤ cap) (_ : cap ≤ maxLen) (y : len * 56 ≤ 140737488351232) (xs : List Value) (_l : xs.length = len * 5) (rd : Rds W a xs)
    (lf : ∀ (i j : Nat) (k : FK), i < len → ([FK.int, FK.int, FK.int, FK.str, FK.str] : List FK)[j]? = some k → ∃ u, xs[i * 5 + j]? = some u ∧ leafOk k u) (k : Int) (_hk : (Lit.int .i64 k).wf = true) (id : Int) (_hid : (Lit.int .i64 id).wf = true) (hv : VarsC W) :
    Calls Tryd.prog 6 #[.slice a len cap, .int .i64 k, .int .i64 id] W fun e w' => e = .returned (.bool true) ∧ Below W.heap.size W w' := by
  obtain ⟨l, rfl, ho⟩ := outs_at rd lf
  exact of_walk W a cap l k id ho hcap hv
end Go.Proofs.YthalpaggcdpcbaaDoor.Tr
