/- TraceJoins. -/
import Derived.Test.YthalpaggcdpcbaaDoorTrOd
import Derived.Test.YthalpaggcdpcbaaDoorTrVb
namespace Go.Proofs.YthalpaggcdpcbaaDoor.Tr
open Go.RowKit Go.Proofs.YthalpaggcdpcbaaDoor Go.Proofs.YthalpaggcdpcbaaDoor.Nm Go.Proofs.YthalpaggcdpcbaaDoor.Cf
attribute [local go_sem ↓ high] exec_cat
attribute [local go_sem] strOf_str
theorem news_outs {w : World} {A : Option Addr} {L : List OutV} (h : OutsAt w A L) (h0 : 0 < L.length) : ∃ g off, A = some ⟨g, off, none⟩ ∧ ∀ j u, (L.flatMap encO)[j]? = some u → w.cell? ((⟨g, off, none⟩ : Addr).add j) = some u := by
  match L, h, h0 with
  | o :: r, h, _ =>
    obtain ⟨g, off, rfl, _⟩ := h 0 o rfl
    generalize o :: r = L at *
    refine ⟨g, off, rfl, fun j u hj => ?_⟩
    rw [addr_add]
    have hlt := (List.getElem?_eq_some_iff.1 hj).1
    rw [encOs_len] at hlt
    obtain ⟨q, hq⟩ : ∃ q, L[j / 5]? = some q := ⟨_, List.getElem?_eq_getElem (by omega)⟩
    obtain ⟨g', off', e', c0, c1, c2, c3, c4⟩ := h (j / 5) q hq
    injection e' with e'
    injection e' with e1 e2
    subst e1 e2
    have hu := enc_get L (j / 5) q hq (j % 5)
    rw [show j / 5 * 5 + j % 5 = j by omega, hj] at hu
    have h5 : j % 5 < 5 := Nat.mod_lt _ (by omega)
    obtain ⟨m, hm⟩ : ∃ m, j % 5 = m := ⟨_, rfl⟩
    rw [hm] at hu h5
    rw [show off + j = off + j / 5 * 5 + m by omega]
    match m, h5 with
    | 0, _ => rw [hu _ rfl]; exact c0
    | 1, _ => rw [hu _ rfl]; exact c1
    | 2, _ => rw [hu _ rfl]; exact c2
    | 3, _ => rw [hu _ rfl]; exact c3
    | 4, _ => rw [hu _ rfl]; exact c4
/-- append of a list of outputs that lies somewhere, to one of the call's own. -/
theorem run_append_outs (w : World) (v : Value) (n : Nat) (L1 : List OutV) (hs : Sl w 27 5 v n (L1.flatMap encO)) (A : Option Addr) (c : Nat) (L : List OutV) (hz : OutsAt w A L) (hb : n + L.length ≤ 1000) (ty : TypeId) :
    ∃ A' c' w', (Builtin.append_ #[22, 22] ty #[v, .slice A L.length c]).run Tryd.prog w = .ok (.slice A' (n + L.length) c') w' ∧ Sl w' 27 5 (.slice A' (n + L.length) c') (n + L.length) ((L1 ++ L).flatMap encO) ∧ Only (fun g => v.ownBlock = some g) w w' ∧ Lies w v (.slice A' (n + L.length) c') := by
  obtain ⟨i0, hi, hz0, hz1, hz2⟩ := info_parts out_info
  rcases Nat.eq_zero_or_pos L.length with h0 | h0
  · have hL : L = [] := List.eq_nil_of_length_eq_zero h0
    subst hL
    obtain ⟨A1, c1, rfl, hnc, _⟩ := hs.slice
    refine ⟨A1, c1, w, ?_, by rw [List.append_nil]; exact hs, Only.refl _ _, .inl rfl⟩
    cases A1 <;> cases A <;> simp [Builtin.append_, run_underlying Tryd.underlying22, Builtin.lenOf, Builtin.firstCells, hnc, storeCells, loadCells, loadCellsFrom]
  · obtain ⟨g, off, rfl, hn⟩ := news_outs hz h0
    obtain ⟨A', c', w', h1, h2, h3, h4⟩ := run_append_sl (P := Tryd.prog) w 22 ty 27 i0 _ 5 56 Tryd.underlying22 hi hz0 hz1 hz2 rfl (by decide) v n (L1.flatMap encO) hs ⟨g, off, none⟩ L.length c (L.flatMap encO) (encOs_len L) hn (fun u hu => by
        obtain ⟨q, _, hq⟩ := List.mem_flatMap.1 hu
        simp [encO] at hq
        rcases hq with rfl | rfl | rfl | rfl | rfl <;> simp [Value.oneCell']) (by unfold maxLen; omega) (by omega)
    exact ⟨A', c', w', h1, by rw [List.flatMap_append]; exact h2, h3, h4⟩
theorem wpList_append_outs {ops : Array Oper} {rest : List Oper} {o : Oper} {a : Act} {w : World} {Q : Exit → Act → World → Prop} (hgd : o.guard = none) (s x : Operand)
    (ho : o.op = .call { callee := .builtin .append, args := #[s, x], argTypes := #[22, 22] })
    (v : Value) (n : Nat) (L1 : List OutV) (hs : a.eval s = v) (hsl : Sl w 27 5 v n (L1.flatMap encO)) (A : Option Addr) (c : Nat) (L : List OutV) (hx : a.eval x = .slice A L.length c) (hz : OutsAt w A L) (hb : n + L.length ≤ 1000)
    (h : ∀ A' c' w', Sl w' 27 5 (.slice A' (n + L.length) c') (n + L.length) ((L1 ++ L).flatMap encO) → Only (fun g => v.ownBlock = some g) w w' → Lies w v (.slice A' (n + L.length) c') → wpList Tryd.prog ops Q rest (a.put o.dst (.slice A' (n + L.length) c')) w') : wpList Tryd.prog ops Q (o :: rest) a w :=
  wpList_plain hgd fun K hK => by
    obtain ⟨A', c', w', hr, h2, h3, h4⟩ := run_append_outs w v n L1 hsl A c L hz hb o.type
    unfold Oper.wp execOp
    simp only [ho, resolve, invoke, builtin, Sem.run_bind, Sem.run_pure, Result.andThen_ok, List.map_toArray, List.map_cons, List.map_nil, hs, hx, hr]
    exact hK _ _ (h A' c' w' h2 h3 h4)
theorem linesL_app (a b : List OutV) : linesL (a ++ b) = linesL a ++ linesL b := by unfold linesL; rw [List.flatMap_append]
theorem lineN_count (o : OutV) : ((lineN o).filter (· == 10)).length = if rightV o = true then 1 else 0 := by
  unfold lineN
  by_cases h : rightV o = true
  · rw [if_pos h, if_pos h, List.filter_append, List.filter_eq_nil_iff.2 fun x hx => by
      have := line_sign h hx
      simpa using this]
    rfl
  · rw [if_neg h, if_neg h]; rfl
theorem linesL_count : ∀ (l : List OutV), ((linesL l).filter (· == 10)).length = (l.filter rightV).length
  | [] => rfl
  | o :: r => by
    have ih := linesL_count r
    have h1 := lineN_count o
    unfold linesL at ih ⊢
    rw [List.flatMap_cons, List.filter_append, List.length_append, ih, h1, List.filter_cons]
    split <;> simp [Nat.add_comm]
theorem linesL_last : ∀ (l : List OutV), (l.filter rightV).length ≠ 0 → ∃ x, linesL l = x ++ [10]
  | [], h => absurd rfl h
  | o :: r, h => by
    unfold linesL
    rw [List.flatMap_cons]
    by_cases hr : (r.filter rightV).length = 0
    · have hn : r.flatMap lineN = [] := by
        rw [List.flatMap_eq_nil_iff]
        intro x hx
        unfold lineN
        have := List.filter_eq_nil_iff.1 (List.eq_nil_of_length_eq_zero hr) x hx
        rw [if_neg this]
      have ho : rightV o = true := by
        by_cases ho : rightV o = true
        · exact ho
        · rw [List.filter_cons, if_neg ho] at h; exact absurd hr h
      rw [hn, List.append_nil]
      unfold lineN
      rw [if_pos ho]
      exact ⟨_, rfl⟩
    · obtain ⟨x, hx⟩ := linesL_last r hr
      unfold linesL at hx
      exact ⟨lineN o ++ x, by rw [hx, List.append_assoc]⟩
theorem linesL_at10 {l : List OutV} (h : (l.filter rightV).length ≠ 0) : 0 < (linesL l).length ∧ (linesL l)[(linesL l).length - 1]? = some 10 := by
  obtain ⟨x, hx⟩ := linesL_last l h
  rw [hx]
  simp
set_option maxRecDepth 100000 in
set_option maxHeartbeats 8000000 in
theorem joins_walk (w : World) (A0 B0 : Option Addr) (ca cb : Nat) (La0 Lb0 : List OutV) (ha0 : OutsAt w A0 La0) (hb0 : OutsAt w B0 Lb0) (hca : La0.length ≤ ca) (hcb : Lb0.length ≤ cb) (hma : ∀ o ∈ La0, Mid o) (hmb : ∀ o ∈ Lb0, Mid o) (hv : VarsC w) :
    Calls Tryd.prog 4 #[.slice A0 La0.length ca, .slice B0 Lb0.length cb] w fun e w' => e = .returned (.bool true) ∧ Below w.heap.size w w' := by
  obtain ⟨ma, A, hmin1, hsl1, hat⟩ := outs_cut ha0 20 hca
  obtain ⟨mb, D, hmin2, hsl2, hbt⟩ := outs_cut hb0 20 hcb
  replace hmin1 : ∀ W ats ty, (Builtin.min_ ats ty #[.int .i64 (La0.length : Int), .int .i64 20]).run Tryd.prog W = .ok (.int .i64 ma) W := hmin1
  replace hmin2 : ∀ W ats ty, (Builtin.min_ ats ty #[.int .i64 (Lb0.length : Int), .int .i64 20]).run Tryd.prog W = .ok (.int .i64 mb) W := hmin2
  have hla : (La0.take 20).length ≤ 20 := by rw [List.length_take]; omega
  have hlb : (Lb0.take 20).length ≤ 20 := by rw [List.length_take]; omega
  have hca2 : (La0.take 20).length ≤ ca := by rw [List.length_take]; omega
  have hcb2 : (Lb0.take 20).length ≤ cb := by rw [List.length_take]; omega
  have HMA := Lib.hid (show ∀ o ∈ La0.take 20, Mid o from fun o ho => hma o (List.mem_of_mem_take ho))
  have HMB := Lib.hid (show ∀ o ∈ Lb0.take 20, Mid o from fun o ho => hmb o (List.mem_of_mem_take ho))
  generalize La0.take 20 = La at *
  generalize Lb0.take 20 = Lb at *
  have HA := Lib.hid hat
  have HD := Lib.hid hbt
  have HV := Lib.hid hv
  have HL := Lib.hid (lives_any w hv)
  clear hat hbt hv ha0 hb0 hma hmb
  go_enter Tryd.func4, Tryd.ntmps4
  go_wp2_with fail
  refine HL.out.mono ?_
  rintro e w1 ⟨rfl, b1⟩
  have B1 := Lib.hid (show B w w1 from b1)
  clear b1 HL
  go_wp2_with fail
  go_region
  all_goals
    go_wp2_with (at_builtin; refine wpList_append_outs (by rfl) (.tmp 23) (.tmp 24) (by rfl) (.slice none 0 0) 0 [] (by rfl) ?hs A ca La (by rfl) ?hz ?hb ?_)
    case hs => exact Sl.nil _ _ _
    case hz => exact HA.out.below (by repeat (first | with_reducible exact B1.out | refine B_drew ?_ | refine B_drewN ?_ _))
    case hb => omega
    intro A1 c1 w2 hs2 ho2 hl2
    have HS2 := Lib.hid hs2
    have B2 := Lib.hid (show B w w2 from B_only (by repeat (first | with_reducible exact B1.out | refine B_drew ?_ | refine B_drewN ?_ _)) ho2 (by intro k hk; cases hk))
    have HO2 := Lib.hid (lies_new hl2 (w0 := w) (by intro k hk; cases hk) (by first | exact B1.out.size | exact (B_drew B1.out).size | exact (B_drewN B1.out _).size))
    clear hs2 ho2 hl2
    go_wp2_with (at_builtin; refine wpList_append_outs (by rfl) (.tmp 26) (.tmp 27) (by rfl) (.slice A1 La.length c1) La.length La (by rfl) ?hs D cb Lb (by rfl) ?hz ?hb ?_)
    case hs => exact HS2.out
    case hz => exact HD.out.below B2.out
    case hb => omega
    intro A2 c2 w3 hs3 ho3 hl3
    have HS3 := Lib.hid (show Sl w3 27 5 (.slice A2 (La.length + Lb.length) c2) (La.length + Lb.length) ((La ++ Lb).flatMap encO) by first | exact hs3 | (rw [List.flatMap_append]; exact hs3))
    have B3 := Lib.hid (show B w w3 from B_only B2.out ho3 HO2.out)
    clear hs3 ho3 hl3 HS2 HO2
    have HSC := sl_capO HS3.out
    have hll : (La ++ Lb).length = La.length + Lb.length := List.length_append
    have HZ := Lib.hid (outs_of_Sl HS3.out hll)
    have HMAB := Lib.hid (show ∀ o ∈ La ++ Lb, Mid o from fun o ho => (List.mem_append.1 ho).elim (HMA.out o) (HMB.out o))
    have HLA := Lib.hid (linesL_app La Lb)
    rw [← hll] at HSC
    rw [← hll]
    have hl40 : (La ++ Lb).length ≤ 40 := by omega
    clear hll HS3
    generalize La ++ Lb = Lc at *
    have HFM := Lib.hid (fun (j : Nat) (o : OutV) (h1 : Lc[j]? = some o) => filter_more (q := rightV) h1)
    have HFL := Lib.hid (show ((Lc.take Lc.length).filter rightV).length = (Lc.filter rightV).length by rw [List.take_length])
    have hfn : (Lc.filter rightV).length ≤ 40 := Nat.le_trans (List.length_filter_le _ _) hl40
    have hfj : ∀ j, ((Lc.take j).filter rightV).length ≤ 40 := fun j => Nat.le_trans (List.length_filter_le _ _) (by rw [List.length_take]; omega)
    have HFJ := Lib.hid hfj
    clear hfj
    go_wp2_with fail
    go_loopw [6, 7] (fun s6 s7 wr => ∃ j : Nat, j ≤ Lc.length ∧ s7 = .int .i64 j ∧ s6 = .int .i64 (((Lc.take j).filter rightV).length : Nat) ∧ B w3 wr) (fun _ i _ => Lc.length - (intOf i).toNat)
    case atStart => exact ⟨0, Nat.zero_le _, rfl, rfl, by repeat (first | with_reducible exact B_refl _ | refine B_drew ?_ | refine B_drewN ?_ _)⟩
    case round =>
      obtain ⟨j, hj, rfl, rfl, hr⟩ := hrel
      have BR := Lib.hid hr
      clear hr
      by_cases hjm : j < Lc.length
      · obtain ⟨o, ho⟩ : ∃ o, Lc[j]? = some o := ⟨_, List.getElem?_eq_getElem hjm⟩
        obtain ⟨g, off, rfl, a0, a1, a2, a3, a4⟩ := (HZ.out.below BR.out) j o ho
        have HM := Lib.hid (HFM.out j o ho)
        have hkk := HFJ.out j
        generalize ((Lc.take j).filter rightV).length = kk at *
        have HR := Lib.hid (right_any o)
        unfold RightIs outArg at HR
        cases hro : rightV o with
        | true =>
          rw [hro] at HR HM
          rw [if_pos rfl] at HM
          clear hro ho
          go_wp2_with fail
          refine (HR.out _).mono ?_
          rintro e w4 ⟨rfl, b4⟩
          have B4 := Lib.hid (show B w3 w4 from (B_trans (by first | exact BR.out | exact B_drew BR.out | exact B_drewN BR.out _) b4))
          clear b4
          go_wp2_with fail
          go_roundw
          case rel => exact ⟨j + 1, by omega, by push_cast; rfl, by rw [HM.out]; push_cast; rfl, B4.out⟩
          case measure => simp [intOf]; omega
        | false =>
          rw [hro] at HR HM
          rw [if_neg (by simp)] at HM
          clear hro ho
          go_wp2_with fail
          refine (HR.out _).mono ?_
          rintro e w4 ⟨rfl, b4⟩
          have B4 := Lib.hid (show B w3 w4 from (B_trans (by first | exact BR.out | exact B_drew BR.out | exact B_drewN BR.out _) b4))
          clear b4
          go_wp2_with fail
          go_roundw
          case rel => exact ⟨j + 1, by omega, by push_cast; rfl, by rw [HM.out]; rfl, B4.out⟩
          case measure => simp [intOf]; omega
      · obtain rfl : j = Lc.length := by omega
        rw [HFL.out]
        have HLC := Lib.hid (fun W h hv => lines_big A2 c2 Lc (by omega) HSC HMAB.out W h hv)
        have HLAa := Lib.hid (fun W h hv => lines_big A ca La (by omega) hca2 HMA.out W h hv)
        have HLAb := Lib.hid (fun W h hv => lines_big D cb Lb (by omega) hcb2 HMB.out W h hv)
        have BW := Lib.hid (show B w wr from B_trans B3.out BR.out)
        have HZR := Lib.hid (HZ.out.below BR.out)
        have HCN := Lib.hid (linesL_count Lc)
        have HLT := Lib.hid (fun h => linesL_at10 (l := Lc) h)
        have hsa := lines_mid (fun o ho => HMA.out o ho)
        have hsb := lines_mid (fun o ho => HMB.out o ho)
        have hsc := lines_mid (fun o ho => HMAB.out o ho)
        have hza : (bs (linesL La)).size ≤ 100000000 := by rw [bs_size]; have : La.length * 3310000 ≤ 20 * 3310000 := Nat.mul_le_mul_right _ hla; omega
        have hzb : (bs (linesL Lb)).size ≤ 100000000 := by rw [bs_size]; have : Lb.length * 3310000 ≤ 20 * 3310000 := Nat.mul_le_mul_right _ hlb; omega
        have HCC := Lib.hid (show bs (linesL La) ++ bs (linesL Lb) = bs (linesL Lc) by rw [HLA.out, bs_append])
        have z1 : catOk (bs (linesL La)) (bs (linesL Lb)) := by unfold catOk; omega
        have hzc : (linesL Lc).length ≤ 200000000 := by have : Lc.length * 3310000 ≤ 40 * 3310000 := Nat.mul_le_mul_right _ hl40; omega
        clear hsa hsb hsc HFM HFL HFJ HLA HMA HMB HMAB HSC
        generalize bs (linesL La) = sa at *
        generalize bs (linesL Lb) = sb at *
        generalize linesL Lc = SL at *
        generalize (Lc.filter rightV).length = N at *
        have hss : ((bs SL).size : Int) = (SL.length : Int) := by rw [bs_size]
        go_wp2_with fail
        refine (HLC.out _ (by exact HZR.out) (HV.out.below BW.out)).mono ?_
        rintro e w5 ⟨rfl, b5⟩
        have B5 := Lib.hid (show B w w5 from (B_trans (by first | exact BW.out | exact B_drew BW.out | exact B_drewN BW.out _) b5))
        clear b5 HLC HZR
        go_wp2_with fail
        go_loopw [9, 10] (fun s9 s10 wz => ∃ j : Nat, j ≤ SL.length ∧ s10 = .int .i64 j ∧ s9 = .int .i64 (((SL.take j).filter (· == 10)).length : Nat) ∧ B w wz) (fun _ i _ => SL.length - (intOf i).toNat)
        case atStart => exact ⟨0, Nat.zero_le _, rfl, rfl, by repeat (first | with_reducible exact B5.out | refine B_drew ?_ | refine B_drewN ?_ _)⟩
        case round =>
          obtain ⟨j, hj, rfl, rfl, hr⟩ := hrel
          have BZ := Lib.hid hr
          clear hr
          by_cases hjm : j < SL.length
          · have i0 := fun W => idx_run SL j hjm W
            have hkk : ((SL.take j).filter (· == 10)).length ≤ 200000000 := Nat.le_trans (List.length_filter_le _ _) (by rw [List.length_take]; omega)
            have HM := Lib.hid (filter_more (q := fun x : UInt8 => x == 10) (List.getElem?_eq_getElem hjm))
            generalize ((SL.take j).filter (fun x => x == 10)).length = kk at *
            generalize SL[j] = x at *
            by_cases hx : x = 10
            · subst hx
              rw [if_pos (by decide)] at HM
              have t1 : ((((10 : UInt8).toNat : Nat) : Int) == 10) = true := by decide
              generalize ((10 : UInt8).toNat : Int) = xn at *
              go_wp2_with fail
              go_roundw
              case rel => exact ⟨j + 1, by omega, by push_cast; rfl, by rw [HM.out]; push_cast; rfl, by repeat (first | with_reducible exact BZ.out | refine B_drew ?_ | refine B_drewN ?_ _)⟩
              case measure => simp [intOf]; omega
            · rw [if_neg (by simpa using hx)] at HM
              have t1 : ((x.toNat : Int) == 10) = false := by
                rw [beq_eq_false_iff_ne]
                intro e
                apply hx
                apply UInt8.toNat_inj.1
                show _ = 10
                omega
              clear hx
              go_wp2_with fail
              go_roundw
              case rel => exact ⟨j + 1, by omega, by push_cast; rfl, by rw [HM.out]; rfl, by repeat (first | with_reducible exact BZ.out | refine B_drew ?_ | refine B_drewN ?_ _)⟩
              case measure => simp [intOf]; omega
          · obtain rfl : j = SL.length := by omega
            rw [List.take_length, HCN.out]
            have HLAa2 := Lib.hid (fun W (h : B w W) => HLAa.out W (HA.out.below h) (HV.out.below h))
            have HLAb2 := Lib.hid (fun W (h : B w W) => HLAb.out W (HD.out.below h) (HV.out.below h))
            have t1 : (N == N) = true := beq_self_eq_true _
            have t4 : (((N : Nat) : Int) == ((N : Nat) : Int)) = true := beq_self_eq_true _
            clear HLAa HLAb HA HD HZ BR B1 B2 B3 BW
            have t5 : ((bs SL).toList == (sa ++ sb).toList) = true := by rw [HCC.out]; exact beq_self_eq_true _
            by_cases hN : N = 0
            · subst hN
              go_wp2_with fail
              refine (HLAa2.out _ (by repeat (first | with_reducible exact BZ.out | refine B_drew ?_ | refine B_drewN ?_ _))).mono ?_
              rintro e w6 ⟨rfl, b6⟩
              have B6 := Lib.hid (show B w w6 from (B_trans (by first | exact BZ.out | exact B_drew BZ.out | exact B_drewN BZ.out _) b6))
              clear b6
              go_wp2_with fail
              refine (HLAb2.out _ B6.out).mono ?_
              rintro e w7 ⟨rfl, b7⟩
              have B7 := Lib.hid (show B w w7 from (B_trans (by first | exact B6.out | exact B_drew B6.out | exact B_drewN B6.out _) b7))
              clear b7
              go_wp2_with fail
              go_ret
              exact ⟨rfl, by repeat (first | with_reducible exact B7.out | refine B_drew ?_ | refine B_drewN ?_ _)⟩
            · obtain ⟨hp, h10⟩ := HLT.out hN
              have t6 : (((N : Nat) : Int) == 0) = false := beq_eq_false_iff_ne.2 (by omega)
              have i9 : ∀ W, (Instr.index 9 (.string (bs SL)) (.int .i64 ((SL.length : Int) - 1))).run Tryd.prog W = .ok (.int .u8 10) W := fun W => by
                have hlt : SL.length - 1 < SL.length := by omega
                have h := idx_run SL (SL.length - 1) hlt W
                rw [show ((SL.length - 1 : Nat) : Int) = (SL.length : Int) - 1 by omega] at h
                rw [h]
                have he := (List.getElem?_eq_some_iff.1 h10).2
                rw [he]
                rfl
              clear h10 hN
              go_wp2_with fail
              refine (HLAa2.out _ (by repeat (first | with_reducible exact BZ.out | refine B_drew ?_ | refine B_drewN ?_ _))).mono ?_
              rintro e w6 ⟨rfl, b6⟩
              have B6 := Lib.hid (show B w w6 from (B_trans (by first | exact BZ.out | exact B_drew BZ.out | exact B_drewN BZ.out _) b6))
              clear b6
              go_wp2_with fail
              refine (HLAb2.out _ B6.out).mono ?_
              rintro e w7 ⟨rfl, b7⟩
              have B7 := Lib.hid (show B w w7 from (B_trans (by first | exact B6.out | exact B_drew B6.out | exact B_drewN B6.out _) b7))
              clear b7
              go_wp2_with fail
              go_ret
              exact ⟨rfl, by repeat (first | with_reducible exact B7.out | refine B_drew ?_ | refine B_drewN ?_ _)⟩
end Go.Proofs.YthalpaggcdpcbaaDoor.Tr
