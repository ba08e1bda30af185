/- TraceBack. -/
import Derived.Test.YthalpaggcdpcbaaDoorTrS
import Derived.Test.YthalpaggcdpcbaaDoorOpen
namespace Go.Proofs.YthalpaggcdpcbaaDoor.Tr
open Go.RowKit Go.Proofs.YthalpaggcdpcbaaDoor Go.Proofs.YthalpaggcdpcbaaDoor.Nm Go.Proofs.YthalpaggcdpcbaaDoor.Cf
attribute [local go_sem high] eqOut
theorem back_two (s : ByteArray) (hs : s.size ≤ 150) (q : OutV) : parseA s q = (zeroO, 2) ∨ (parseA s q = (q, 0) ∧ lineV q = (s, 0) ∧ q.data.size ≤ 1000 ∧ q.text.size ≤ 1000) := by
  rcases parse_two s q with h | ⟨h, hl⟩
  · exact .inl h
  · obtain ⟨hr, hq⟩ := lineV_is.1 hl
    refine .inr ⟨h, hl, ?_⟩
    have e1 := (escL_len q.data.data.toList).1
    have e2 := (escL_len q.text.data.toList).1
    have s1 : q.data.data.toList.length = q.data.size := by simp
    have s2 : q.text.data.toList.length = q.text.size := by simp
    have s3 : (lineL q).length = s.size := by rw [hq]; simp
    unfold lineL at s3
    rcases right_cases hr with ⟨hk, h1, h2, h3, h4⟩ | ⟨hk, h1, h2, h3, h4, h5⟩ | ⟨hk, h1, h2, h3, h4, h5⟩ | ⟨hk, h1, h3, h4, h5⟩
    · rw [if_neg (by omega), if_neg (by omega), if_neg (by omega)] at s3
      rw [h4]
      refine ⟨?_, by decide⟩
      split at s3
      · rename_i hd; rw [hd] at s1; simp at s1; omega
      · simp only [List.length_append, List.length_cons] at s3; omega
    · rw [if_neg (by omega), if_pos hk] at s3
      simp only [List.length_append, List.length_cons] at s3
      rw [h4]
      exact ⟨by decide, by omega⟩
    · rw [h4, h5]
      exact ⟨by decide, by decide⟩
    · rw [if_pos hk] at s3
      simp only [List.length_append, List.length_cons] at s3
      rw [h4]
      exact ⟨by decide, by omega⟩
theorem zero_line : lineV zeroO = (e0, 1) := by decide +kernel
theorem line_byte {o : OutV} (h : rightV o = true) (j : Nat) (hj : j < (bs (lineL o)).size) : ∃ x : Nat, ((x : Int) == 10) = false ∧ ∀ W, (Instr.index 9 (.string (bs (lineL o))) (.int .i64 (j : Int))).run Tryd.prog W = .ok (.int .u8 (x : Int)) W := by
  rw [bs_size] at hj
  have := line_sign h (x := (lineL o)[j]) (List.getElem_mem hj)
  refine ⟨_, ?_, fun W => idx_run _ j hj W⟩
  rw [beq_eq_false_iff_ne]
  intro e
  apply this
  apply UInt8.toNat_inj.1
  show _ = 10
  omega
set_option maxRecDepth 100000 in
set_option maxHeartbeats 8000000 in
theorem back_walk (w : World) (k id fk : Int) (d0 t0 s0 : ByteArray) (hv : Vars w) :
    Calls Tryd.prog 8 #[.agg #[.int .i64 k, .int .i64 id, .int .i64 fk, .string d0, .string t0], .string s0] w fun e w' => e = .returned (.bool true) ∧ Below w.heap.size w w' := by
  obtain ⟨m, s, hmin, hsl, hs⟩ := cut_facts2 150 s0
  replace hmin : ∀ W ats ty, (Builtin.min_ ats ty #[.int .i64 (s0.size : Int), .int .i64 150]).run Tryd.prog W = .ok (.int .i64 m) W := hmin
  obtain ⟨d, t, hd, ht, hfew⟩ := few_any k id fk d0 t0
  have HF := Lib.hid hfew
  have HL := Lib.hid (fun W h => lives_any W h)
  have HLZ := Lib.hid (fun W h => line_any zeroO (by decide) (by decide) W h)
  unfold LinePost at HLZ
  rw [zero_line] at HLZ
  unfold outArg zeroO e0 at HLZ
  dsimp only at HLZ
  have HLN := Lib.hid (fun W h => line_any ⟨k, id, fk, d, t⟩ (by simp only; omega) (by simp only; omega) W h)
  unfold LinePost outArg at HLN
  dsimp only at HLN
  have HP2 := Lib.hid (fun W h => parse_any s (by omega) W h)
  unfold ParsePost outArg at HP2
  have HTWO := Lib.hid (back_two s hs)
  have HV := Lib.hid hv
  have HB0 := Lib.hid (B_alloc (B_refl w) (.cells #[.int .i64 k, .int .i64 id, .int .i64 fk, .string d0, .string t0] 27))
  have HK0 := Lib.hid (Blk.new w 27 #[.int .i64 k, .int .i64 id, .int .i64 fk, .string d0, .string t0])
  clear hv hfew hs
  cases hr : rightV ⟨k, id, fk, d, t⟩ with
  | false =>
    rw [lineV_no hr] at HLN
    clear hr hd ht
    dsimp only at HLN
    go_enter Tryd.func8, Tryd.ntmps8
    go_wp2_with fail
    refine (HL.out _ (VarsC.below HV.out.tab HB0.out)).mono ?_
    rintro e w1 ⟨rfl, b1⟩
    have B1 := Lib.hid (show B w w1 from B_trans HB0.out b1)
    have HK1 := Lib.hid (HK0.out.b b1)
    have hk1 := HK1.out
    have d0 := hk1.cell 0
    have d1 := hk1.cell 1
    have d2 := hk1.cell 2
    have d3 := hk1.cell 3
    have d4 := hk1.cell 4
    have hql := hk1.lt
    have fz := fun i => hk1.frozen i
    simp at d0 d1 d2 d3 d4
    clear b1 HK0 HB0 hk1
    go_wp2_with fail
    refine (HF.out _).mono ?_
    rintro e w2 ⟨rfl, b2⟩
    clear d0 d1 d2 d3 d4 hql fz
    have B2 := Lib.hid (show B w w2 from (B_trans (by first | exact B1.out | exact B_drew B1.out | exact B_drewN B1.out _) b2))
    have HK2 := Lib.hid (HK1.out.b b2)
    have hk2 := HK2.out
    have d0 := hk2.cell 0
    have d1 := hk2.cell 1
    have d2 := hk2.cell 2
    have d3 := hk2.cell 3
    have d4 := hk2.cell 4
    have hql := hk2.lt
    have fz := fun i => hk2.frozen i
    simp at d0 d1 d2 d3 d4
    clear b2 HK1 B1 hk2
    go_wp2_with fail
    refine (HLN.out _ (VarsC.below HV.out.tab (by repeat (first | with_reducible exact B2.out | refine B_setCell ?_ (by first | (simp; done) | (simp; omega)) _ | refine B_drew ?_)))).mono ?_
    rintro e w3 ⟨rfl, b3⟩
    clear d0 d1 d2 d3 d4 hql fz
    have B3 := Lib.hid (show B w w3 from B_trans (by repeat (first | with_reducible exact B2.out | refine B_setCell ?_ (by first | (simp; done) | (simp; omega)) _ | refine B_drew ?_)) b3)
    have HK3 := Lib.hid (Blk.b (show Blk _ w.heap.size 27 #[.int .i64 k, .int .i64 id, .int .i64 fk, .string d, .string t] from ((((HK2.out.set_ 0 _).set_ 1 _).set_ 2 _).set_ 3 _).set_ 4 _) b3)
    clear b3 HK2 B2 HLN HF
    go_wp2_with fail
    refine (HP2.out _ (HV.out.below (by repeat (first | with_reducible exact B3.out | refine B_drew ?_ | refine B_drewN ?_ _)))).mono ?_
    rintro e w6 ⟨q, hcand, rfl, b6⟩
    have B6 := Lib.hid (show B w w6 from B_trans (by repeat (first | with_reducible exact B3.out | refine B_drew ?_ | refine B_drewN ?_ _)) b6)
    clear b6 hcand
    rcases HTWO.out q with h | ⟨h, hl, hz1, hz2⟩
    · rw [h]
      have B7 := Lib.hid (B_alloc B6.out (.cells #[.int .i64 0, .int .i64 0, .int .i64 0, .string ⟨#[]⟩, .string ⟨#[]⟩] 27))
      clear h
      unfold zeroO e0
      dsimp only
      go_wp2_with fail
      refine (HLZ.out _ (VarsC.below HV.out.tab B7.out)).mono ?_
      rintro e w8 ⟨rfl, b8⟩
      have K8 := Blk.b (Blk.new w6 27 #[.int .i64 0, .int .i64 0, .int .i64 0, .string ⟨#[]⟩, .string ⟨#[]⟩]) b8
      have B8 := Lib.hid (show B w w8 from B_trans B7.out b8)
      have d0 := K8.cell 0
      have d1 := K8.cell 1
      have d2 := K8.cell 2
      have d3 := K8.cell 3
      have d4 := K8.cell 4
      have hql := K8.lt
      have fz := fun i => K8.frozen i
      simp at d0 d1 d2 d3 d4
      clear K8 b8
      go_wp2_with fail
      go_ret
      exact ⟨rfl, by repeat (first | with_reducible exact B8.out | refine B_drew ?_ | refine B_drewN ?_ _)⟩
    · rw [h]
      obtain ⟨pk, pi, pf, pd, pt⟩ := q
      have HLQ := Lib.hid (fun W h => line_any ⟨pk, pi, pf, pd, pt⟩ (Nat.le_trans hz1 (by decide)) (Nat.le_trans hz2 (by decide)) W h)
      unfold LinePost outArg at HLQ
      rw [hl] at HLQ
      dsimp only at HLQ ⊢
      have B7 := Lib.hid (B_alloc B6.out (.cells #[.int .i64 pk, .int .i64 pi, .int .i64 pf, .string pd, .string pt] 27))
      clear h hl hz1 hz2
      go_wp2_with fail
      refine (HLQ.out _ (VarsC.below HV.out.tab B7.out)).mono ?_
      rintro e w8 ⟨rfl, b8⟩
      have K8 := Blk.b (Blk.new w6 27 #[.int .i64 pk, .int .i64 pi, .int .i64 pf, .string pd, .string pt]) b8
      have B8 := Lib.hid (show B w w8 from B_trans B7.out b8)
      have d0 := K8.cell 0
      have d1 := K8.cell 1
      have d2 := K8.cell 2
      have d3 := K8.cell 3
      have d4 := K8.cell 4
      have hql := K8.lt
      have fz := fun i => K8.frozen i
      simp at d0 d1 d2 d3 d4
      clear K8 b8
      go_wp2_with fail
      go_ret
      exact ⟨rfl, by repeat (first | with_reducible exact B8.out | refine B_drew ?_ | refine B_drewN ?_ _)⟩
  | true =>
    have HNL := Lib.hid (line_byte hr)
    rw [lineV_yes hr] at HLN
    have hlz := line_size hr hd ht
    have HP1 := Lib.hid (show ∀ W, Vars W → Calls Tryd.prog 20 #[.string (bs (lineL ⟨k, id, fk, d, t⟩))] W fun e w' => e = .returned (.tuple #[.agg #[.int .i64 k, .int .i64 id, .int .i64 fk, .string d, .string t], .int .i64 0]) ∧ Below W.heap.size W w' from fun W h => (parse_any _ hlz W h).mono fun e w' ⟨q, hq, he, hb⟩ => by
      rw [bs_list] at hq
      rw [parseA_line hr hq] at he
      exact ⟨he, hb⟩)
    dsimp only at HLN
    generalize bs (lineL ⟨k, id, fk, d, t⟩) = lv at *
    clear hr hd ht
    go_enter Tryd.func8, Tryd.ntmps8
    go_wp2_with fail
    refine (HL.out _ (VarsC.below HV.out.tab HB0.out)).mono ?_
    rintro e w1 ⟨rfl, b1⟩
    have B1 := Lib.hid (show B w w1 from B_trans HB0.out b1)
    have HK1 := Lib.hid (HK0.out.b b1)
    have hk1 := HK1.out
    have d0 := hk1.cell 0
    have d1 := hk1.cell 1
    have d2 := hk1.cell 2
    have d3 := hk1.cell 3
    have d4 := hk1.cell 4
    have hql := hk1.lt
    have fz := fun i => hk1.frozen i
    simp at d0 d1 d2 d3 d4
    clear b1 HK0 HB0 hk1
    go_wp2_with fail
    refine (HF.out _).mono ?_
    rintro e w2 ⟨rfl, b2⟩
    clear d0 d1 d2 d3 d4 hql fz
    have B2 := Lib.hid (show B w w2 from (B_trans (by first | exact B1.out | exact B_drew B1.out | exact B_drewN B1.out _) b2))
    have HK2 := Lib.hid (HK1.out.b b2)
    have hk2 := HK2.out
    have d0 := hk2.cell 0
    have d1 := hk2.cell 1
    have d2 := hk2.cell 2
    have d3 := hk2.cell 3
    have d4 := hk2.cell 4
    have hql := hk2.lt
    have fz := fun i => hk2.frozen i
    simp at d0 d1 d2 d3 d4
    clear b2 HK1 B1 hk2
    go_wp2_with fail
    refine (HLN.out _ (VarsC.below HV.out.tab (by repeat (first | with_reducible exact B2.out | refine B_setCell ?_ (by first | (simp; done) | (simp; omega)) _ | refine B_drew ?_)))).mono ?_
    rintro e w3 ⟨rfl, b3⟩
    clear d0 d1 d2 d3 d4 hql fz
    have B3 := Lib.hid (show B w w3 from B_trans (by repeat (first | with_reducible exact B2.out | refine B_setCell ?_ (by first | (simp; done) | (simp; omega)) _ | refine B_drew ?_)) b3)
    have HK3 := Lib.hid (Blk.b (show Blk _ w.heap.size 27 #[.int .i64 k, .int .i64 id, .int .i64 fk, .string d, .string t] from ((((HK2.out.set_ 0 _).set_ 1 _).set_ 2 _).set_ 3 _).set_ 4 _) b3)
    clear b3 HK2 B2 HLN HF
    go_wp2_with fail
    refine (HP1.out _ (HV.out.below B3.out)).mono ?_
    rintro e w4 ⟨rfl, b4⟩
    have hk4 := HK3.out.b b4
    have B4 := Lib.hid (show B w w4 from B_trans B3.out b4)
    have d0 := hk4.cell 0
    have d1 := hk4.cell 1
    have d2 := hk4.cell 2
    have d3 := hk4.cell 3
    have d4 := hk4.cell 4
    have hql := hk4.lt
    have fz := fun i => hk4.frozen i
    simp at d0 d1 d2 d3 d4
    clear b4 hk4 HP1
    have tk : (k == k) = true := beq_self_eq_true k
    go_wp2_with fail
    go_loopw [9] (fun i wr => ∃ j : Nat, j ≤ lv.size ∧ i = .int .i64 j ∧ B w wr) (fun i _ => lv.size - (intOf i).toNat)
    case atStart => exact ⟨0, Nat.zero_le _, rfl, by repeat (first | with_reducible exact B4.out | refine B_alloc ?_ _ | refine B_drew ?_ | refine B_drewN ?_ _)⟩
    case round =>
      obtain ⟨j, hj, rfl, hr⟩ := hrel
      have BR := Lib.hid hr
      clear hr
      by_cases hjm : j < lv.size
      · obtain ⟨x, hx1, hx⟩ := HNL.out j hjm
        go_wp2_with fail
        go_roundw
        case rel => exact ⟨j + 1, by omega, by go_num, by repeat (first | with_reducible exact BR.out | refine B_drew ?_ | refine B_drewN ?_ _)⟩
        case measure => simp [intOf]; omega
      · go_wp2_with fail
        refine (HP2.out _ (HV.out.below (by repeat (first | with_reducible exact BR.out | refine B_drew ?_ | refine B_drewN ?_ _)))).mono ?_
        rintro e w6 ⟨q, hcand, rfl, b6⟩
        have B6 := Lib.hid (show B w w6 from B_trans (by repeat (first | with_reducible exact BR.out | refine B_drew ?_ | refine B_drewN ?_ _)) b6)
        clear b6 hcand
        rcases HTWO.out q with h | ⟨h, hl, hz1, hz2⟩
        · rw [h]
          have B7 := Lib.hid (B_alloc B6.out (.cells #[.int .i64 0, .int .i64 0, .int .i64 0, .string ⟨#[]⟩, .string ⟨#[]⟩] 27))
          clear h
          unfold zeroO e0
          dsimp only
          go_wp2_with fail
          refine (HLZ.out _ (VarsC.below HV.out.tab B7.out)).mono ?_
          rintro e w8 ⟨rfl, b8⟩
          have K8 := Blk.b (Blk.new w6 27 #[.int .i64 0, .int .i64 0, .int .i64 0, .string ⟨#[]⟩, .string ⟨#[]⟩]) b8
          have B8 := Lib.hid (show B w w8 from B_trans B7.out b8)
          have d0 := K8.cell 0
          have d1 := K8.cell 1
          have d2 := K8.cell 2
          have d3 := K8.cell 3
          have d4 := K8.cell 4
          have hql := K8.lt
          have fz := fun i => K8.frozen i
          simp at d0 d1 d2 d3 d4
          clear K8 b8
          go_wp2_with fail
          go_ret
          exact ⟨rfl, by repeat (first | with_reducible exact B8.out | refine B_drew ?_ | refine B_drewN ?_ _)⟩
        · rw [h]
          obtain ⟨pk, pi, pf, pd, pt⟩ := q
          have HLQ := Lib.hid (fun W h => line_any ⟨pk, pi, pf, pd, pt⟩ (Nat.le_trans hz1 (by decide)) (Nat.le_trans hz2 (by decide)) W h)
          unfold LinePost outArg at HLQ
          rw [hl] at HLQ
          dsimp only at HLQ ⊢
          have B7 := Lib.hid (B_alloc B6.out (.cells #[.int .i64 pk, .int .i64 pi, .int .i64 pf, .string pd, .string pt] 27))
          clear h hl hz1 hz2
          go_wp2_with fail
          refine (HLQ.out _ (VarsC.below HV.out.tab B7.out)).mono ?_
          rintro e w8 ⟨rfl, b8⟩
          have K8 := Blk.b (Blk.new w6 27 #[.int .i64 pk, .int .i64 pi, .int .i64 pf, .string pd, .string pt]) b8
          have B8 := Lib.hid (show B w w8 from B_trans B7.out b8)
          have d0 := K8.cell 0
          have d1 := K8.cell 1
          have d2 := K8.cell 2
          have d3 := K8.cell 3
          have d4 := K8.cell 4
          have hql := K8.lt
          have fz := fun i => K8.frozen i
          simp at d0 d1 d2 d3 d4
          clear K8 b8
          go_wp2_with fail
          go_ret
          exact ⟨rfl, by repeat (first | with_reducible exact B8.out | refine B_drew ?_ | refine B_drewN ?_ _)⟩
theorem flat_Frame : Flat Tryd.prog 25 [.int, .str] :=
  Flat.struct Tryd.underlying25 (by kernel_rfl) fun i k hk => by
    match i, hk with
    | 0, hk => exact ⟨0, _, [.int], rfl, Nat.le_refl _, by decide, Flat.int Tryd.underlying3, by kernel_rfl, hk⟩
    | 1, hk => exact ⟨1, _, [.str], rfl, by decide, by decide, Flat.str Tryd.underlying9, by kernel_rfl, hk⟩
    | i + 2, hk => simp at hk
theorem flat_Out : Flat Tryd.prog 27 [.int, .int, .int, .str, .str] :=
  Flat.struct Tryd.underlying27 (by kernel_rfl) fun i k hk => by
    match i, hk with
    | 0, hk => exact ⟨0, _, [.int], rfl, Nat.le_refl _, by decide, Flat.int Tryd.underlying3, by kernel_rfl, hk⟩
    | 1, hk => exact ⟨1, _, [.int], rfl, by decide, by decide, Flat.int Tryd.underlying3, by kernel_rfl, hk⟩
    | 2, hk => exact ⟨2, _, [.int, .str], rfl, by decide, by decide, flat_Frame, by kernel_rfl, hk⟩
    | 3, hk => exact ⟨2, _, [.int, .str], rfl, by decide, by decide, flat_Frame, by kernel_rfl, hk⟩
    | 4, hk => exact ⟨3, _, [.str], rfl, by decide, by decide, Flat.str Tryd.underlying9, by kernel_rfl, hk⟩
    | i + 5, hk => simp at hk
theorem out_of {cs : Array Value} (h : cs.size = 5 ∧ ∀ (i : Nat) (k : FK), ([.int, .int, .int, .str, .str] : List FK)[i]? = some k → ∃ u, cs[i]? = some u ∧ leafOk k u) :
    ∃ k i f d t, cs = #[.int .i64 k, .int .i64 i, .int .i64 f, .string d, .string t] := by
  obtain ⟨hs, hc⟩ := h
  obtain ⟨_, g0, n0, rfl, _⟩ := hc 0 _ rfl
  obtain ⟨_, g1, n1, rfl, _⟩ := hc 1 _ rfl
  obtain ⟨_, g2, n2, rfl, _⟩ := hc 2 _ rfl
  obtain ⟨_, g3, n3, rfl, _⟩ := hc 3 _ rfl
  obtain ⟨_, g4, n4, rfl, _⟩ := hc 4 _ rfl
  refine ⟨n0, n1, n2, n3, n4, Array.ext_getElem? fun i => ?_⟩
  match i with
  | 0 => exact g0
  | 1 => exact g1
  | 2 => exact g2
  | 3 => exact g3
  | 4 => exact g4
  | i + 5 => rw [Array.getElem?_eq_none (by omega), Array.getElem?_eq_none (by simp)]
theorem walk_TraceBack (w : World) (cs : Array Value) (h : cs.size = 5 ∧ ∀ (i : Nat) (k : FK), ([.int, .int, .int, .str, .str] : List FK)[i]? = some k → ∃ u, cs[i]? = some u ∧ leafOk k u) (s : ByteArray) (_hs : s.size ≤ maxLen) (hv : Vars w) :
    Calls Tryd.prog 8 #[.agg cs, .string s] w fun e w' => e = .returned (.bool true) ∧ Below w.heap.size w w' := by
  obtain ⟨k, i, f, d, t, rfl⟩ := out_of h
  exact back_walk w k i f d t s hv
end Go.Proofs.YthalpaggcdpcbaaDoor.Tr
