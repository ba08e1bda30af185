/- WatchSees returns true, for every list of outputs: its walk. -/
import Derived.Test.YtghjhcobmbobcaaSxC
namespace Go.Proofs.Ytghjhcobmbobcaa.Wt
open Go.RowKit Go.Proofs.Ytghjhcobmbobcaa.Mp Go.Proofs.Ytghjhcobmbobcaa Go.Proofs.YtghjhcobmbobcaaW.PrintWords Go.Proofs.YtghjhcobmbobcaaW.PrintLast Go.Proofs.YtghjhcobmbobcaaW.PrintMore Go.Proofs.Ytghjhcobmbobcaa.PWatchAudit
set_option maxRecDepth 100000 in
set_option maxHeartbeats 16000000 in
theorem walk_WatchSees (W : World) (a0 : Option Addr) (len0 cap0 : Nat) (u0 : len0 ≤ cap0) (_ : cap0 ≤ maxLen) (y0 : len0 * 56 ≤ 140737488351232) (xs : List Value) (l0 : xs.length = len0 * 5)
    (rd : Rds W a0 xs) (lf : ∀ (i j : Nat) (k : FK), i < len0 → [FK.int, FK.int, FK.int, FK.str, FK.str][j]? = some k → ∃ u, xs[i * 5 + j]? = some u ∧ leafOk k u) :
    Calls Try.prog 5 #[.slice a0 len0 cap0] W fun e W' => e = .returned (.bool true) ∧ Below W.heap.size W W' := by
  have hC := outs_C y0 l0 rd lf
  have hOz : OutsAt W a0 (((List.range len0).map (out5 xs)).map toV) := OutsAt.of_C (by
    rw [show ((List.range len0).map (out5 xs)).length = len0 by simp]; exact hC)
  have hsz := outs_sizes lf
  have hwf := outs_wf lf
  obtain ⟨zs, hzs⟩ : ∃ zs, ((List.range len0).map (out5 xs)).map toV = zs := ⟨_, rfl⟩
  have hzl : zs.length = len0 := by rw [← hzs]; simp
  rw [hzs] at hOz hsz hwf
  clear rd lf hzs l0 xs hC
  subst hzl
  have HC := Lib.hid hOz
  have HZ := Lib.hid hsz
  have HF := Lib.hid hwf
  clear hOz hsz hwf
  go_enter Try.func5, Try.ntmps5
  go_wp2_with fail
  refine (lives_any _).mono ?_
  rintro e w1 ⟨rfl, b1⟩
  have B1 := Lib.hid b1; clear b1
  go_wp2_with fail
  refine (fewp_any WfI w1 a0 zs cap0 HZ.out y0 HF.out (HC.out.below B1.out)).mono ?_
  rintro e w2 ⟨Aa, ca, l, rfl, hka, hal, hsm, hO, b2⟩
  have B2 : Hid (Below W.heap.size W w2) := Lib.hid (B1.out.trans (b2.mono B1.out.size))
  have HO := Lib.hid hO
  have HS := Lib.hid hsm
  clear hO hsm b2 B1 HC HZ HF
  go_wp2_with fail
  refine (new_is w2).mono ?_
  rintro e w3 ⟨a, rfl, ha, b3⟩
  have HA := Lib.hid ha
  have B3 := Lib.hid b3
  clear ha b3
  go_wp2_with fail
  go_loopw [5, 6, 7] (fun s5 _ _ wr => ∃ (k : Nat) (s : St) (r : RW) (v1 v2 v3 v4 v5 : Value), k ≤ l.length ∧ s5 = .int .i64 k ∧ Hid (Knows s r ∧ Few r k ∧ WfR r) ∧ WAt (Bs.at w2) wr a k s ∧ Blk wr w3.heap.size 42 #[.int .i64 r.top, v1, v2, v3, v4, v5] ∧ RWV wr v1 v2 v3 v4 v5 r ∧ Below w2.heap.size w2 wr) (fun s _ _ _ => l.length - (intOf s).toNat)
  case atStart => exact ⟨0, st0, rw0, .slice none 0 0, .slice none 0 0, .slice none 0 0, .slice none 0 0, .slice none 0 0, Nat.zero_le _, rfl, Lib.hid ⟨knows0, ⟨Nat.le_refl _, Nat.le_refl _, Nat.le_refl _, Nat.le_refl _, Nat.le_refl _⟩, wfR0⟩, HA.out.below (B_alloc (B_refl _) _), Blk.new _ _ _, ⟨⟨_, _, rfl, Sl.nil _ _ _⟩, ⟨_, _, rfl, Sl.nil _ _ _⟩, ⟨_, _, rfl, Sl.nil _ _ _⟩, ⟨_, _, rfl, Sl.nil _ _ _⟩, ⟨_, _, rfl, Sl.nil _ _ _⟩⟩, B3.out.alloc B3.out.size _⟩
  case round =>
    obtain ⟨k, s, r, v1, v2, v3, v4, v5, hk, rfl, hkn, hwa, hblk, hrv, hb⟩ := hrel
    obtain ⟨A1, c1, A2, c2, A3, c3, A4, c4, A5, c5, rfl, rfl, rfl, rfl, rfl⟩ := rwvs hrv
    have HKB := Lib.hid hblk
    have HRV := Lib.hid hrv
    have BR := Lib.hid hb
    have HA1 := Lib.hid hwa
    have hszl : w3.heap.size < wr.heap.size := HKB.out.lt
    clear hblk hrv hb hwa HA
    by_cases hlt : k < l.length
    · obtain ⟨o, ho⟩ : ∃ o, l[k]? = some o := ⟨_, List.getElem?_eq_getElem hlt⟩
      obtain ⟨hso, how⟩ := HS.out o (List.mem_of_getElem? ho)
      obtain ⟨ad, rfl, _⟩ := (HO.out.below BR.out) k o ho
      have HSEE := Lib.hid (fun W (hb : B wr W) => refsee_any W o _ _ _ _ _ r (by have := hkn.out.2.1; exact ⟨by have := this.l1; omega, by have := this.l2; omega, by have := this.l3; omega, by have := this.l4; omega, by have := this.l5; omega⟩) (hkn.out.1.apart o.id) (HRV.out.below hb) (by omega))
      have HCE : Hid (∀ W, B wr W → (W.cell? ⟨w3.heap.size, 0, none⟩ = some (.int .i64 r.top) ∧ W.cell? ⟨w3.heap.size, 1, none⟩ = some (.slice A1 r.first.length c1) ∧ W.cell? ⟨w3.heap.size, 2, none⟩ = some (.slice A2 r.idle.length c2) ∧ W.cell? ⟨w3.heap.size, 3, none⟩ = some (.slice A3 r.op.length c3) ∧ W.cell? ⟨w3.heap.size, 4, none⟩ = some (.slice A4 r.gr.length c4) ∧ W.cell? ⟨w3.heap.size, 5, none⟩ = some (.slice A5 r.en.length c5)) ∧
          W.cell? (ad.add (k * 5)) = some (.int .i64 o.k) ∧ W.cell? ⟨(ad.add (k * 5)).block, (ad.add (k * 5)).off + 1, none⟩ = some (.int .i64 o.id) ∧
          W.cell? ⟨(ad.add (k * 5)).block, (ad.add (k * 5)).off + 2, none⟩ = some (.int .i64 o.fk) ∧ W.cell? ⟨(ad.add (k * 5)).block, (ad.add (k * 5)).off + 3, none⟩ = some (.string o.data) ∧ W.cell? ⟨(ad.add (k * 5)).block, (ad.add (k * 5)).off + 4, none⟩ = some (.string o.text)) := Lib.hid fun W hW => by
        have hk2 := HKB.out.b hW
        obtain ⟨ad2, e2, hc⟩ := (HO.out.below (BR.out.trans (hW.mono BR.out.size))) k o ho
        cases e2
        exact ⟨⟨hk2.cell 0, hk2.cell 1, hk2.cell 2, hk2.cell 3, hk2.cell 4, hk2.cell 5⟩, hc⟩
      have HNX := Lib.hid (show Knows (seeV (rightV o) s o).1 (seeR (rightV o) r o).1 ∧ Few (seeR (rightV o) r o).1 (k + 1) ∧ WfR (seeR (rightV o) r o).1 from ⟨(hkn.out.1.see _ o).2, hkn.out.2.1.see _ o, hkn.out.2.2.see _ o how⟩)
      have hzz := (hkn.out.1.see (rightV o) o).1
      have hk0 : (0 : Int) ≤ (k : Int) := by omega
      have hk1 : (k : Int) < (l.length : Int) := by omega
      have hk63 : (k : Int) < 9223372036854775807 := by omega
      clear hkn
      have HB := Lib.hid (B_refl wr)
      unfold SeePost at HSEE
      obtain ⟨⟨s', z2⟩, hz⟩ : ∃ p, seeV (rightV o) s o = p := ⟨_, rfl⟩
      rw [hz] at HNX hzz
      generalize seeR (rightV o) r o = rz' at HSEE HNX hzz
      obtain ⟨r', z⟩ := rz'
      dsimp only at HNX HSEE hzz
      subst hzz
      go_wp2_with fail
      obtain ⟨⟨e0, e1, e2, e3, e4, e5⟩, f0, f1, f2, f3, f4⟩ := HCE.out wr (B_refl _)
      have hsz : w3.heap.size < wr.heap.size := HKB.out.lt
      have hadz : (ad.add (k * 5)).block < wr.heap.size := World.block_lt_of_cell? wr _ f0
      go_cut [6, 7] from 23 to 31 (fun s6 s7 wx => ∃ (b6 : Nat) (x1 x2 x3 x4 x5 : Value), s6 = .pointer (some ⟨b6, 0, none⟩) ∧ s7 = .int .i64 z ∧ wr.heap.size ≤ b6 ∧ Blk wx b6 42 #[.int .i64 r'.top, x1, x2, x3, x4, x5] ∧ RWV wx x1 x2 x3 x4 x5 r' ∧ B wr wx)
      case first =>
        go_region_with ((go_at_call 16; refine (HSEE.out _ (by (repeat (first | with_reducible exact HB.out | with_reducible exact B_refl _ | with_reducible refine B_setCell ?_ (by first | (simp; done) | (simp; omega)) _ | with_reducible refine B_drewN ?_ _ | with_reducible refine B_drew ?_ | with_reducible refine B_alloc ?_ _)))).mono ?_; rintro e wv ⟨x1, x2, x3, x4, x5, rfl, hxv, hxb⟩; obtain ⟨B1, m1, d1, B2, m2, d2, B3, m3, d3, B4, m4, d4, B5, m5, d5, rfl, rfl, rfl, rfl, rfl⟩ := rwvsN hxv; replace HB := Lib.hid (show B wr wv from B_trans (by (repeat (first | with_reducible exact HB.out | with_reducible exact B_refl _ | with_reducible refine B_setCell ?_ (by first | (simp; done) | (simp; omega)) _ | with_reducible refine B_drewN ?_ _ | with_reducible refine B_drew ?_ | with_reducible refine B_alloc ?_ _))) hxb); have HXV := Lib.hid hxv; have hzv := HB.out.size; try (have hq := Blk.b (Blk.drew (Blk.new wr 42 Z42)) hxb; have hqf := fun i => hq.frozen i; have hql := hq.lt; have q0 := hq.cell 0; have q1 := hq.cell 1; have q2 := hq.cell 2; have q3 := hq.cell 3; have q4 := hq.cell 4; have q5 := hq.cell 5; simp at q0 q1 q2 q3 q4 q5; have HQ := Lib.hid hq; clear hq); clear hxv hxb HSEE))
        all_goals
          go_wp2_with fail
          go_meet
          first
            | exact ⟨_, _, _, _, _, _, rfl, rfl, HB.out.size, Blk.new _ _ _, HXV.out.below (B_alloc (B_refl _) _), B_alloc HB.out _⟩
            | exact ⟨_, _, _, _, _, _, rfl, rfl, Nat.le_refl _, (store6 HQ.out _ _ _ _ _ _).1, (store6 HQ.out _ _ _ _ _ _).2.1 _ _ _ _ _ _ HXV.out, (store6 HQ.out _ _ _ _ _ _).2.2 _ HB.out (Nat.le_refl _)⟩
      case rest =>
        obtain ⟨b6, x1, x2, x3, x4, x5, rfl, rfl, hb6, hk6, hv6, hbb⟩ := hcut
        have hg : w2.heap.size ≤ w3.heap.size := B3.out.size
        obtain ⟨B1, m1, d1, B2, m2, d2, B3, m3, d3, B4, m4, d4, B5, m5, d5, rfl, rfl, rfl, rfl, rfl⟩ := rwvsN hv6
        have HK4 := Lib.hid (HKB.out.b hbb)
        have HV6 := Lib.hid hv6
        have HBB := Lib.hid (show Below w2.heap.size w2 wc from BR.out.trans (hbb.mono BR.out.size))
        have HA4 := Lib.hid (HA1.out.below hbb)
        clear hv6 hbb HSEE e0 e1 e2 e3 e4 e5 f0 f1 f2 f3 f4 hadz HCE HB
        have g0 := hk6.cell 0
        have g1 := hk6.cell 1
        have g2 := hk6.cell 2
        have g3 := hk6.cell 3
        have g4 := hk6.cell 4
        have g5 := hk6.cell 5
        have hk4 := HK4.out
        have j0 := hk4.cell 0
        have j1 := hk4.cell 1
        have j2 := hk4.cell 2
        have j3 := hk4.cell 3
        have j4 := hk4.cell 4
        have j5 := hk4.cell 5
        have jf := fun i => hk4.frozen i
        have jl := hk4.lt
        simp at g0 g1 g2 g3 g4 g5 j0 j1 j2 j3 j4 j5
        clear hk6 hk4
        go_upto_region 11 with fail
        obtain ⟨wd, hwd⟩ : ∃ wd, wd = set6 wc w3.heap.size (.int .i64 r'.top) (.slice B1 m1 d1) (.slice B2 m2 d2) (.slice B3 m3 d3) (.slice B4 m4 d4) (.slice B5 m5 d5) := ⟨_, rfl⟩
        have HKD := Lib.hid (show Blk wd w3.heap.size 42 #[.int .i64 r'.top, .slice B1 m1 d1, .slice B2 m2 d2, .slice B3 m3 d3, .slice B4 m4 d4, .slice B5 m5 d5] by rw [hwd]; exact (store6 HK4.out _ _ _ _ _ _).1)
        have HVD := Lib.hid (show RWV wd (.slice B1 m1 d1) (.slice B2 m2 d2) (.slice B3 m3 d3) (.slice B4 m4 d4) (.slice B5 m5 d5) r' by rw [hwd]; exact (store6 HK4.out _ _ _ _ _ _).2.1 _ _ _ _ _ _ HV6.out)
        have HAD := Lib.hid (show WAt (Bs.at w2) wd a k s by rw [hwd]; exact HA4.out.set6 HK4.out _ _ _ _ _ _)
        have HBD := Lib.hid (show Below w2.heap.size w2 wd by
          rw [hwd]
          exact (((((HBB.out.setCell hg _).setCell hg _).setCell hg _).setCell hg _).setCell hg _).setCell hg _)
        simp only [set6] at hwd
        rw [← hwd]
        clear hwd g0 g1 g2 g3 g4 g5 j0 j1 j2 j3 j4 j5 jf jl HK4 HV6 HA4 HBB hszl
        obtain ⟨ad2, e2, f0, f1, f2, f3, f4⟩ := (HO.out.below HBD.out) k o ho
        cases e2
        have HSE := Lib.hid (watch_see w2.heap.size a k s s' z o wd w2 HAD.out (by omega) hso hz)
        unfold outArg at HSE
        clear hz
        go_wp2_with fail
        refine HSE.out.mono ?_
        rintro e we ⟨rfl, hA, hB, hK⟩
        have ht : Other 42 := by unfold Other; decide
        have HKE := Lib.hid (hK _ _ _ HKD.out ht)
        have HVE := Lib.hid (HVD.out.other hK)
        have HAE := Lib.hid (show WAt (Bs.at w2) we a (k + 1) s' from hA)
        have HBE := Lib.hid (show Below w2.heap.size w2 we from HBD.out.trans hB)
        clear hA hB hK f0 f1 f2 f3 f4 HSE ht HKD HVD HAD HBD
        have hke := HKE.out
        have q0 := hke.cell 0
        have q1 := hke.cell 1
        have q2 := hke.cell 2
        have q3 := hke.cell 3
        have q4 := hke.cell 4
        have q5 := hke.cell 5
        simp at q0 q1 q2 q3 q4 q5
        clear hke
        have t0 : (z != z) = false := by simp
        have HF3 := Lib.hid (show Few r' 300 from by have := HNX.out.2.1; exact ⟨by have := this.l1; omega, by have := this.l2; omega, by have := this.l3; omega, by have := this.l4; omega, by have := this.l5; omega⟩)
        have HLK := Lib.hid (like_any (Bs.at w2) a (k + 1) s' r' _ _ _ _ _ we HAE.out (by omega) HNX.out.1 HF3.out HNX.out.2.2 HVE.out)
        go_wp2_with fail
        refine HLK.out.mono ?_
        rintro e wf ⟨rfl, hb⟩
        have HAF := Lib.hid (HAE.out.below hb)
        have HKF := Lib.hid (HKE.out.b hb)
        have HVF := Lib.hid (HVE.out.below hb)
        have HBF := Lib.hid (show Below w2.heap.size w2 wf from HBE.out.trans (hb.mono HBE.out.size))
        clear hb q0 q1 q2 q3 q4 q5 HLK HF3 HAE HKE HVE HBE
        go_wp2_with fail
        go_roundw
        case rel => exact ⟨k + 1, s', r', _, _, _, _, _, by omega, by push_cast; rfl, HNX, HAF.out, HKF.out, HVF.out, HBF.out⟩
        case measure => simp [intOf]; omega
    · have HOW := Lib.hid (HO.out.below BR.out)
      have HST := Lib.hid (fun (o : OutV) (ho : o ∈ l) => (HS.out o ho).1)
      have HA5 := Lib.hid (audit_n Aa l.length ca l rfl hka (by omega) HST.out wr HOW.out)
      have HA6 := Lib.hid (fun w5 (b5 : B wr w5) => refaudit_any w5 Aa l ca (by omega) HST.out (HOW.out.below b5))
      generalize auditFrom rightV 0 st0 l = res at *
      obtain ⟨ri, rz⟩ := res
      have t1 : (ri == ri) = true := beq_self_eq_true _
      have t2 : (rz == rz) = true := beq_self_eq_true _
      clear HA1 HKB HRV
      go_wp2_with fail
      refine HA5.out.mono ?_
      rintro e w5 ⟨rfl, b5⟩
      have B5 := Lib.hid b5
      clear b5
      go_wp2_with fail
      refine (HA6.out _ B5.out).mono ?_
      rintro e w6 ⟨rfl, b6⟩
      have B6 := Lib.hid (show Below W.heap.size W w6 from B2.out.trans ((BR.out.trans ((B_trans B5.out b6).mono BR.out.size)).mono B2.out.size))
      clear b6
      go_wp2_with fail
      go_ret
      exact ⟨rfl, B6.out⟩
end Go.Proofs.Ytghjhcobmbobcaa.Wt
