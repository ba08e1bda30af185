/- WatchRefuses returns true, for every list of outputs: its walk. -/
import Derived.Test.YtghjhcobmbobcaaWv
import Derived.Test.YtghjhcobmbobcaaWg
namespace Go.Proofs.Ytghjhcobmbobcaa.Wt
open Go.RowKit Go.Proofs.Ytghjhcobmbobcaa.Mp Go.Proofs.Ytghjhcobmbobcaa Go.Proofs.YtghjhcobmbobcaaW.PrintWords Go.Proofs.YtghjhcobmbobcaaW.PrintLast Go.Proofs.YtghjhcobmbobcaaW.PrintMore Go.Proofs.Ytghjhcobmbobcaa.PWatchAudit

set_option maxRecDepth 100000 in
set_option maxHeartbeats 4000000 in
theorem walk_WatchRefuses (W : World) (a0 : Option Addr) (len0 cap0 : Nat) (u0 : len0 ≤ cap0) (_ : cap0 ≤ maxLen) (y0 : len0 * 56 ≤ 140737488351232) (xs : List Value) (l0 : xs.length = len0 * 5)
    (rd : Rds W a0 xs) (lf : ∀ (i j : Nat) (k : FK), i < len0 → [FK.int, FK.int, FK.int, FK.str, FK.str][j]? = some k → ∃ u, xs[i * 5 + j]? = some u ∧ leafOk k u) :
    Calls Try.prog 6 #[.slice a0 len0 cap0] W fun e W' => e = .returned (.bool true) ∧ Below W.heap.size W W' := by
  have hC := outs_C y0 l0 rd lf
  have hOz : OutsAt W a0 (((List.range len0).map (out5 xs)).map toV) := OutsAt.of_C (by
    rw [show ((List.range len0).map (out5 xs)).length = len0 by simp]; exact hC)
  have hsz := outs_sizes lf
  obtain ⟨zs, hzs⟩ : ∃ zs, ((List.range len0).map (out5 xs)).map toV = zs := ⟨_, rfl⟩
  have hzl : zs.length = len0 := by rw [← hzs]; simp
  rw [hzs] at hOz hsz
  clear rd lf hzs l0 xs hC
  subst hzl
  have HC := Lib.hid hOz
  have HZ := Lib.hid hsz
  clear hOz hsz
  go_enter Try.func6, Try.ntmps6
  go_wp2_with fail
  refine (lives_any _).mono ?_
  rintro e w1 ⟨rfl, b1⟩
  have B1 := Lib.hid b1; clear b1
  go_wp2_with fail
  refine (few_any w1 a0 zs cap0 HZ.out y0 (HC.out.below B1.out)).mono ?_
  rintro e w2 ⟨Aa, ca, l, rfl, hka, hal, hsm, hO, b2⟩
  have B2 : Hid (Below W.heap.size W w2) := Lib.hid (B1.out.trans (b2.mono B1.out.size))
  have HO := Lib.hid hO
  have HS := Lib.hid hsm
  clear hO hsm b2 B1 HC HZ
  go_wp2_with fail
  refine (new_is w2).mono ?_
  rintro e w3 ⟨a, rfl, ha, b3⟩
  have HA := Lib.hid ha
  have B3 := Lib.hid b3
  clear ha b3
  go_wp2_with fail
  refine (new_is w3).mono ?_
  rintro e w4 ⟨b, rfl, hb, b4⟩
  have HT0 := Lib.hid (Two.made HA.out B3.out hb b4)
  have HB0 := Lib.hid (B3.out.trans (b4.mono B3.out.size))
  clear hb b4 HA B3
  go_wp2_with fail
  go_loopw [5] (fun i wr => ∃ (k : Nat) (s : St), k ≤ l.length ∧ i = .int .i64 k ∧ Two w2.heap.size wr a b (2 * k) s s ∧ Below w2.heap.size w2 wr) (fun i _ => l.length - (intOf i).toNat)
  case atStart => exact ⟨0, st0, Nat.zero_le _, rfl, HT0.out, HB0.out⟩
  case round =>
    obtain ⟨k, s, hk, rfl, hT, hB⟩ := hrel
    clear HT0 HB0
    have HT := Lib.hid hT
    have HB := Lib.hid hB
    clear hT hB
    by_cases hlt : k < l.length
    · obtain ⟨o, ho⟩ : ∃ o, l[k]? = some o := ⟨_, List.getElem?_eq_getElem hlt⟩
      have hso := HS.out o (List.mem_of_getElem? ho)
      obtain ⟨ad, rfl, c0, c1, c2, c3, c4⟩ := (HO.out.below HB.out) k o ho
      have HC := Lib.hid (two_seeA _ a b (2 * k) s s o wr HT.out (by omega) hso)
      unfold outArg at HC
      have hkp := seeV_keep (rightV o) s o
      obtain ⟨⟨s', z⟩, hz⟩ : ∃ z, seeV (rightV o) s o = z := ⟨_, rfl⟩
      rw [hz] at hkp HC
      dsimp only at hkp HC
      have hk63 : (k : Int) < 9223372036854775807 := by omega
      go_wp2_with fail
      refine HC.out.mono ?_
      rintro e w5 ⟨rfl, hT, hB⟩
      replace HT := Lib.hid hT
      replace HB := Lib.hid (HB.out.trans hB)
      clear HC hT hB c0 c1 c2 c3 c4
      by_cases h0 : z = 0
      · subst h0
        clear hkp
        obtain ⟨ad2, e2, c0, c1, c2, c3, c4⟩ := (HO.out.below HB.out) k o ho
        cases e2
        have HC := Lib.hid (two_seeB _ a b (2 * k + 1) s' s o w5 HT.out (by omega) hso)
        unfold outArg at HC
        rw [hz] at HC
        dsimp only at HC
        go_wp2_with fail
        refine HC.out.mono ?_
        rintro e w6 ⟨rfl, hT, hB⟩
        replace HT := Lib.hid hT
        replace HB := Lib.hid (HB.out.trans hB)
        clear HC hT hB c0 c1 c2 c3 c4 hz
        have Cw7 := Lib.hid (two_ConnsA _ a b _ s' s' w6 HT.out (by omega))
        go_wp2_with fail
        refine Cw7.out.mono ?_
        clear Cw7
        rintro e w7 ⟨Aw7, cw7, rfl, _, hlw7, h1, h2⟩
        have HTw7 := Lib.hid (HT.out.below h2)
        have HBw7 := Lib.hid (HB.out.trans (h2.mono HB.out.size))
        have Iw7 := Lib.hid h1
        have LLw7 := Lib.hid hlw7
        clear h1 h2 HT HB hlw7
        have Cw8 := Lib.hid (two_ConnsA _ b a _ s' s' w7 HTw7.out.symm (by omega))
        go_wp2_with fail
        refine Cw8.out.mono ?_
        clear Cw8
        rintro e w8 ⟨Aw8, cw8, rfl, _, _, h1, h2⟩
        have HTw8 := Lib.hid (HTw7.out.below h2)
        have HBw8 := Lib.hid (HBw7.out.trans (h2.mono HBw7.out.size))
        have Cw9 := Lib.hid (same_list (c := cw7) (d := cw8) LLw7.out (Iw7.out.below h2) h1)
        clear h1 h2 HTw7 HBw7 Iw7 LLw7
        go_wp2_with fail
        refine Cw9.out.mono ?_
        clear Cw9
        rintro e w9 ⟨rfl, h2⟩
        have HT := Lib.hid (HTw8.out.below h2)
        have HB := Lib.hid (HBw8.out.trans (h2.mono HBw8.out.size))
        clear h2 HTw8 HBw8
        have Cw10 := Lib.hid (two_OpenA _ a b _ s' s' w9 HT.out (by omega))
        go_wp2_with fail
        refine Cw10.out.mono ?_
        clear Cw10
        rintro e w10 ⟨Aw10, cw10, rfl, _, hlw10, h1, h2⟩
        have HTw10 := Lib.hid (HT.out.below h2)
        have HBw10 := Lib.hid (HB.out.trans (h2.mono HB.out.size))
        have Iw10 := Lib.hid h1
        have LLw10 := Lib.hid hlw10
        clear h1 h2 HT HB hlw10
        have Cw11 := Lib.hid (two_OpenA _ b a _ s' s' w10 HTw10.out.symm (by omega))
        go_wp2_with fail
        refine Cw11.out.mono ?_
        clear Cw11
        rintro e w11 ⟨Aw11, cw11, rfl, _, _, h1, h2⟩
        have HTw11 := Lib.hid (HTw10.out.below h2)
        have HBw11 := Lib.hid (HBw10.out.trans (h2.mono HBw10.out.size))
        have Cw12 := Lib.hid (same_list (c := cw10) (d := cw11) LLw10.out (Iw10.out.below h2) h1)
        clear h1 h2 HTw10 HBw10 Iw10 LLw10
        go_wp2_with fail
        refine Cw12.out.mono ?_
        clear Cw12
        rintro e w12 ⟨rfl, h2⟩
        have HT := Lib.hid (HTw11.out.below h2)
        have HB := Lib.hid (HBw11.out.trans (h2.mono HBw11.out.size))
        clear h2 HTw11 HBw11
        have Cw13 := Lib.hid (two_EndedA _ a b _ s' s' w12 HT.out (by omega))
        go_wp2_with fail
        refine Cw13.out.mono ?_
        clear Cw13
        rintro e w13 ⟨Aw13, cw13, rfl, _, hlw13, h1, h2⟩
        have HTw13 := Lib.hid (HT.out.below h2)
        have HBw13 := Lib.hid (HB.out.trans (h2.mono HB.out.size))
        have Iw13 := Lib.hid h1
        have LLw13 := Lib.hid hlw13
        clear h1 h2 HT HB hlw13
        have Cw14 := Lib.hid (two_EndedA _ b a _ s' s' w13 HTw13.out.symm (by omega))
        go_wp2_with fail
        refine Cw14.out.mono ?_
        clear Cw14
        rintro e w14 ⟨Aw14, cw14, rfl, _, _, h1, h2⟩
        have HTw14 := Lib.hid (HTw13.out.below h2)
        have HBw14 := Lib.hid (HBw13.out.trans (h2.mono HBw13.out.size))
        have Cw15 := Lib.hid (same_list (c := cw13) (d := cw14) LLw13.out (Iw13.out.below h2) h1)
        clear h1 h2 HTw13 HBw13 Iw13 LLw13
        go_wp2_with fail
        refine Cw15.out.mono ?_
        clear Cw15
        rintro e w15 ⟨rfl, h2⟩
        have HT := Lib.hid (HTw14.out.below h2)
        have HB := Lib.hid (HBw14.out.trans (h2.mono HBw14.out.size))
        clear h2 HTw14 HBw14
        have Cw16 := Lib.hid (two_GreetedA _ a b _ s' s' w15 HT.out (by omega))
        go_wp2_with fail
        refine Cw16.out.mono ?_
        clear Cw16
        rintro e w16 ⟨Aw16, cw16, rfl, _, hlw16, h1, h2⟩
        have HTw16 := Lib.hid (HT.out.below h2)
        have HBw16 := Lib.hid (HB.out.trans (h2.mono HB.out.size))
        have Iw16 := Lib.hid h1
        have LLw16 := Lib.hid hlw16
        clear h1 h2 HT HB hlw16
        have Cw17 := Lib.hid (two_GreetedA _ b a _ s' s' w16 HTw16.out.symm (by omega))
        go_wp2_with fail
        refine Cw17.out.mono ?_
        clear Cw17
        rintro e w17 ⟨Aw17, cw17, rfl, _, _, h1, h2⟩
        have HTw17 := Lib.hid (HTw16.out.below h2)
        have HBw17 := Lib.hid (HBw16.out.trans (h2.mono HBw16.out.size))
        have Cw18 := Lib.hid (same_list (c := cw16) (d := cw17) LLw16.out (Iw16.out.below h2) h1)
        clear h1 h2 HTw16 HBw16 Iw16 LLw16
        go_wp2_with fail
        refine Cw18.out.mono ?_
        clear Cw18
        rintro e w18 ⟨rfl, h2⟩
        have HT := Lib.hid (HTw17.out.below h2)
        have HB := Lib.hid (HBw17.out.trans (h2.mono HBw17.out.size))
        clear h2 HTw17 HBw17
        go_wp2_with fail
        go_roundw
        case rel => exact ⟨k + 1, s', by omega, by push_cast; rfl, HT.out, HB.out⟩
        case measure => simp [intOf]; omega
      · have t1 : (z != 0) = true := bne_iff_ne.2 h0
        have t2 : (z != z) = false := by simp
        obtain rfl := hkp h0
        obtain ⟨ad2, e2, c0, c1, c2, c3, c4⟩ := (HO.out.below HB.out) k o ho
        cases e2
        have HC := Lib.hid (two_seeA _ a b (2 * k + 1) s' s' o w5 HT.out (by omega) hso)
        unfold outArg at HC
        rw [hz] at HC
        dsimp only at HC
        go_wp2_with fail
        refine HC.out.mono ?_
        rintro e w6 ⟨rfl, hT, hB⟩
        replace HT := Lib.hid hT
        replace HB := Lib.hid (HB.out.trans hB)
        clear HC hT hB c0 c1 c2 c3 c4 hz
        have Cw7 := Lib.hid (two_ConnsA _ a b _ s' s' w6 HT.out (by omega))
        go_wp2_with fail
        refine Cw7.out.mono ?_
        clear Cw7
        rintro e w7 ⟨Aw7, cw7, rfl, _, hlw7, h1, h2⟩
        have HTw7 := Lib.hid (HT.out.below h2)
        have HBw7 := Lib.hid (HB.out.trans (h2.mono HB.out.size))
        have Iw7 := Lib.hid h1
        have LLw7 := Lib.hid hlw7
        clear h1 h2 HT HB hlw7
        have Cw8 := Lib.hid (two_ConnsA _ b a _ s' s' w7 HTw7.out.symm (by omega))
        go_wp2_with fail
        refine Cw8.out.mono ?_
        clear Cw8
        rintro e w8 ⟨Aw8, cw8, rfl, _, _, h1, h2⟩
        have HTw8 := Lib.hid (HTw7.out.below h2)
        have HBw8 := Lib.hid (HBw7.out.trans (h2.mono HBw7.out.size))
        have Cw9 := Lib.hid (same_list (c := cw7) (d := cw8) LLw7.out (Iw7.out.below h2) h1)
        clear h1 h2 HTw7 HBw7 Iw7 LLw7
        go_wp2_with fail
        refine Cw9.out.mono ?_
        clear Cw9
        rintro e w9 ⟨rfl, h2⟩
        have HT := Lib.hid (HTw8.out.below h2)
        have HB := Lib.hid (HBw8.out.trans (h2.mono HBw8.out.size))
        clear h2 HTw8 HBw8
        have Cw10 := Lib.hid (two_OpenA _ a b _ s' s' w9 HT.out (by omega))
        go_wp2_with fail
        refine Cw10.out.mono ?_
        clear Cw10
        rintro e w10 ⟨Aw10, cw10, rfl, _, hlw10, h1, h2⟩
        have HTw10 := Lib.hid (HT.out.below h2)
        have HBw10 := Lib.hid (HB.out.trans (h2.mono HB.out.size))
        have Iw10 := Lib.hid h1
        have LLw10 := Lib.hid hlw10
        clear h1 h2 HT HB hlw10
        have Cw11 := Lib.hid (two_OpenA _ b a _ s' s' w10 HTw10.out.symm (by omega))
        go_wp2_with fail
        refine Cw11.out.mono ?_
        clear Cw11
        rintro e w11 ⟨Aw11, cw11, rfl, _, _, h1, h2⟩
        have HTw11 := Lib.hid (HTw10.out.below h2)
        have HBw11 := Lib.hid (HBw10.out.trans (h2.mono HBw10.out.size))
        have Cw12 := Lib.hid (same_list (c := cw10) (d := cw11) LLw10.out (Iw10.out.below h2) h1)
        clear h1 h2 HTw10 HBw10 Iw10 LLw10
        go_wp2_with fail
        refine Cw12.out.mono ?_
        clear Cw12
        rintro e w12 ⟨rfl, h2⟩
        have HT := Lib.hid (HTw11.out.below h2)
        have HB := Lib.hid (HBw11.out.trans (h2.mono HBw11.out.size))
        clear h2 HTw11 HBw11
        have Cw13 := Lib.hid (two_EndedA _ a b _ s' s' w12 HT.out (by omega))
        go_wp2_with fail
        refine Cw13.out.mono ?_
        clear Cw13
        rintro e w13 ⟨Aw13, cw13, rfl, _, hlw13, h1, h2⟩
        have HTw13 := Lib.hid (HT.out.below h2)
        have HBw13 := Lib.hid (HB.out.trans (h2.mono HB.out.size))
        have Iw13 := Lib.hid h1
        have LLw13 := Lib.hid hlw13
        clear h1 h2 HT HB hlw13
        have Cw14 := Lib.hid (two_EndedA _ b a _ s' s' w13 HTw13.out.symm (by omega))
        go_wp2_with fail
        refine Cw14.out.mono ?_
        clear Cw14
        rintro e w14 ⟨Aw14, cw14, rfl, _, _, h1, h2⟩
        have HTw14 := Lib.hid (HTw13.out.below h2)
        have HBw14 := Lib.hid (HBw13.out.trans (h2.mono HBw13.out.size))
        have Cw15 := Lib.hid (same_list (c := cw13) (d := cw14) LLw13.out (Iw13.out.below h2) h1)
        clear h1 h2 HTw13 HBw13 Iw13 LLw13
        go_wp2_with fail
        refine Cw15.out.mono ?_
        clear Cw15
        rintro e w15 ⟨rfl, h2⟩
        have HT := Lib.hid (HTw14.out.below h2)
        have HB := Lib.hid (HBw14.out.trans (h2.mono HBw14.out.size))
        clear h2 HTw14 HBw14
        have Cw16 := Lib.hid (two_GreetedA _ a b _ s' s' w15 HT.out (by omega))
        go_wp2_with fail
        refine Cw16.out.mono ?_
        clear Cw16
        rintro e w16 ⟨Aw16, cw16, rfl, _, hlw16, h1, h2⟩
        have HTw16 := Lib.hid (HT.out.below h2)
        have HBw16 := Lib.hid (HB.out.trans (h2.mono HB.out.size))
        have Iw16 := Lib.hid h1
        have LLw16 := Lib.hid hlw16
        clear h1 h2 HT HB hlw16
        have Cw17 := Lib.hid (two_GreetedA _ b a _ s' s' w16 HTw16.out.symm (by omega))
        go_wp2_with fail
        refine Cw17.out.mono ?_
        clear Cw17
        rintro e w17 ⟨Aw17, cw17, rfl, _, _, h1, h2⟩
        have HTw17 := Lib.hid (HTw16.out.below h2)
        have HBw17 := Lib.hid (HBw16.out.trans (h2.mono HBw16.out.size))
        have Cw18 := Lib.hid (same_list (c := cw16) (d := cw17) LLw16.out (Iw16.out.below h2) h1)
        clear h1 h2 HTw16 HBw16 Iw16 LLw16
        go_wp2_with fail
        refine Cw18.out.mono ?_
        clear Cw18
        rintro e w18 ⟨rfl, h2⟩
        have HT := Lib.hid (HTw17.out.below h2)
        have HB := Lib.hid (HBw17.out.trans (h2.mono HBw17.out.size))
        clear h2 HTw17 HBw17
        go_wp2_with fail
        go_roundw
        case rel => exact ⟨k + 1, s', by omega, by push_cast; rfl, HT.out, HB.out⟩
        case measure => simp [intOf]; omega
    · have hke : k = l.length := by omega
      subst hke
      have HBB := Lib.hid (B2.out.trans (HB.out.mono B2.out.size))
      clear HT HB HS HO
      go_wp2_with fail
      go_ret
      exact ⟨rfl, HBB.out⟩
end Go.Proofs.Ytghjhcobmbobcaa.Wt
