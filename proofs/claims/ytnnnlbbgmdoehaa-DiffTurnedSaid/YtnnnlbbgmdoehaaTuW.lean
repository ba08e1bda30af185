/- DiffTurned returns true, for all lists of numbers: its walk. -/
import Derived.Test.YtnnnlbbgmdoehaaPureDiffTurned
import Derived.Lib.Hide
namespace Go.Proofs.Ytnnnlbbgmdoehaa.PDiffTurned
open Go.RowKit Go.Proofs.YtnnnlbbgmdoehaaW.PrintWords Go.Proofs.YtnnnlbbgmdoehaaW.PrintLast Go.Proofs.YtnnnlbbgmdoehaaW.PrintMore Go.Proofs.Ytnnnlbbgmdoehaa.Pure Go.Proofs.Ytnnnlbbgmdoehaa.Df
set_option maxHeartbeats 4000000 in
set_option maxRecDepth 100000 in
theorem turned_walk (a0 : Option Addr) (len0 cap0 : Nat) (z0 : List Int) (a1 : Option Addr) (len1 cap1 : Nat) (z1 : List Int) (w : World) (w0 : ((a0 = none ∧ len0 = 0 ∧ cap0 = 0 ∧ z0 = []) ∨ ∃ x, a0 = some x ∧ len0 ≤ cap0 ∧ cap0 ≤ maxLen ∧ z0.length = cap0 ∧ (∀ i, i < z0.length → w.cell? (x.add i) = some (.int .i64 (z0.getD i 0))) ∧ ∀ n ∈ z0, (Lit.int .i64 n).wf = true)) (y0 : len0 * 8 ≤ 140737488351232) (w1 : ((a1 = none ∧ len1 = 0 ∧ cap1 = 0 ∧ z1 = []) ∨ ∃ x, a1 = some x ∧ len1 ≤ cap1 ∧ cap1 ≤ maxLen ∧ z1.length = cap1 ∧ (∀ i, i < z1.length → w.cell? (x.add i) = some (.int .i64 (z1.getD i 0))) ∧ ∀ n ∈ z1, (Lit.int .i64 n).wf = true)) (y1 : len1 * 8 ≤ 140737488351232) :
    Calls Try.prog 5 #[.slice a0 len0 cap0, .slice a1 len1 cap1] w fun e w' => e = .returned (.bool true) ∧ Below w.heap.size w w' := by
  obtain ⟨l0, rfl, hr0, hm0, hw0, hc0⟩ := ReadsInt.ofRowC w0
  obtain ⟨l1, rfl, hr1, hm1, hw1, hc1⟩ := ReadsInt.ofRowC w1
  have HR0 := Lib.hid (fun W (hb : Below w.heap.size w W) => Kd.C_below (Kd.C_of_reads (d := (0 : Int)) (h1 := fun _ => rfl) hr0) hb)
  have HR1 := Lib.hid (fun W (hb : Below w.heap.size w W) => Kd.C_below (Kd.C_of_reads (d := (0 : Int)) (h1 := fun _ => rfl) hr1) hb)
  obtain ⟨a, ha, ga⟩ := good_is l0 y0
  obtain ⟨b, hb, gb⟩ := good_is l1 y1
  obtain ⟨K, hK⟩ : ∃ K, K = l0.length + l1.length + 5000 := ⟨_, rfl⟩
  have la := ha.len
  have lb := hb.len
  have k1 := ofV_len b a false
  have k2 := ofV_len a b false
  have G0 := Lib.hid (ga K (by omega))
  have G1 := Lib.hid (gb K (by omega))
  have S1 := Lib.hid (same_is (ofV b a false) K (by omega) (by omega))
  have S2 := Lib.hid (same_is (ofV a b false) K (by omega) (by omega))
  have S3 := Lib.hid (same_is a K (by omega) (by omega))
  have dab := diff_yes ha.small hb.small ha.check hb.check
  have dba := diff_yes hb.small ha.small hb.check ha.check
  have daa := diff_yes ha.small ha.small ha.check ha.check
  rw [ofV_self_false, ofV_self_true] at daa
  have j1 := join_yes OK6.nil.small ha.small OK6.nil.check ha.check
  rw [ofV_nil_false, show ofV [] a true ++ a = a from rfl] at j1
  have j2 := join_yes ha.small OK6.nil.small ha.check OK6.nil.check
  rw [ofV_nil_true, show [] ++ ofV [] a false = [] from rfl] at j2
  have hbl := both_len ha.nodup hb.nodup
  obtain ⟨cm, hcm⟩ : ∃ cm, ofV b a false = cm := ⟨_, rfl⟩
  obtain ⟨wn, hwn⟩ : ∃ wn, ofV a b false = wn := ⟨_, rfl⟩
  obtain ⟨o1, ho1⟩ : ∃ o1, ofV a b true = o1 := ⟨_, rfl⟩
  obtain ⟨o2, ho2⟩ : ∃ o2, ofV b a true = o2 := ⟨_, rfl⟩
  rw [hcm] at S1 dab dba
  rw [hwn] at S2 dab dba
  rw [ho1] at dab hbl
  rw [ho2] at dba hbl
  have Dab := Lib.hid dab
  have Dba := Lib.hid dba
  have Daa := Lib.hid daa
  have J1 := Lib.hid j1
  have J2 := Lib.hid j2
  have tl : ((o1.length : Int) == (o2.length : Int)) = true := by rw [hbl]; exact beq_self_eq_true _
  clear ga gb hr0 hr1 hm0 hm1 hw0 hw1 w0 w1 dab dba daa j1 j2 hcm hwn ho1 ho2 hbl k1 k2 la lb ha hb hK y0 y1
  have BB := Lib.hid (Below.refl w.heap.size w)
  go_enter Try.func5, Try.ntmps5
  go_wp2_with fail
  refine (hostlerlaw09_lives.calls true _ lives_is).mono ?_
  rintro e w1 ⟨rfl, b1⟩
  have B1 := Lib.hid b1; clear b1
  replace BB := Lib.hid (below_step BB.out B1.out)
  go_wp2_with fail
  refine (hostlerref09_Good.calls K _ _ l0 a _ (HR0.out w1 B1.out) hc0 G0.out).mono ?_
  rintro e w2 ⟨v, rfl, R0, b2⟩
  have B2 := Lib.hid b2; clear b2
  replace BB := Lib.hid (below_step BB.out B2.out)
  obtain ⟨Aa, ca, rfl, hka, hCa⟩ := Kd.R_reads R0
  have HCa := Lib.hid hCa; have HKa := Lib.hid hka; clear hCa hka R0
  have B12 := Lib.hid (below_step B1.out B2.out)
  go_wp2_with fail
  refine (hostlerref09_Good.calls K _ _ l1 b _ (HR1.out w2 B12.out) hc1 G1.out).mono ?_
  rintro e w3 ⟨v, rfl, R0, b3⟩
  have B3 := Lib.hid b3; clear b3
  replace BB := Lib.hid (below_step BB.out B3.out)
  replace HCa := Lib.hid (Kd.C_below HCa.out B3.out)
  obtain ⟨Ab, cb, rfl, hkb, hCb⟩ := Kd.R_reads R0
  have HCb := Lib.hid hCb; have HKb := Lib.hid hkb; clear hCb hkb R0
  go_wp2_with fail
  refine (diff_Diff.calls _ _ a _ _ b _ _ _ _ HCa.out HKa.out HCb.out HKb.out Dab.out).mono ?_
  rintro e w4 ⟨v0, v1, v2, rfl, R0, R1, R2, b4⟩
  have B4 := Lib.hid b4; clear b4
  replace BB := Lib.hid (below_step BB.out B4.out)
  replace HCa := Lib.hid (Kd.C_below HCa.out B4.out)
  replace HCb := Lib.hid (Kd.C_below HCb.out B4.out)
  obtain ⟨Ap, cp, rfl, hkp, hCp⟩ := Kd.R_reads R0
  have HCp := Lib.hid hCp; have HKp := Lib.hid hkp; clear hCp hkp R0
  obtain ⟨Aq, cq, rfl, hkq, hCq⟩ := Kd.R_reads R1
  have HCq := Lib.hid hCq; have HKq := Lib.hid hkq; clear hCq hkq R1
  obtain ⟨Ar, cr, rfl, hkr, hCr⟩ := Kd.R_reads R2
  have HCr := Lib.hid hCr; have HKr := Lib.hid hkr; clear hCr hkr R2
  go_wp2_with fail
  refine (diff_Diff.calls _ _ b _ _ a _ _ _ _ HCb.out HKb.out HCa.out HKa.out Dba.out).mono ?_
  rintro e w5 ⟨v0, v1, v2, rfl, R0, R1, R2, b5⟩
  have B5 := Lib.hid b5; clear b5
  replace BB := Lib.hid (below_step BB.out B5.out)
  replace HCa := Lib.hid (Kd.C_below HCa.out B5.out)
  replace HCb := Lib.hid (Kd.C_below HCb.out B5.out)
  replace HCp := Lib.hid (Kd.C_below HCp.out B5.out)
  replace HCq := Lib.hid (Kd.C_below HCq.out B5.out)
  replace HCr := Lib.hid (Kd.C_below HCr.out B5.out)
  obtain ⟨As, cs, rfl, hks, hCs⟩ := Kd.R_reads R0
  have HCs := Lib.hid hCs; have HKs := Lib.hid hks; clear hCs hks R0
  obtain ⟨At, ct, rfl, hkt, hCt⟩ := Kd.R_reads R1
  have HCt := Lib.hid hCt; have HKt := Lib.hid hkt; clear hCt hkt R1
  obtain ⟨Au, cu, rfl, hku, hCu⟩ := Kd.R_reads R2
  have HCu := Lib.hid hCu; have HKu := Lib.hid hku; clear hCu hku R2
  go_wp2_with fail
  refine (diff_Diff.calls _ _ a _ _ a _ _ _ _ HCa.out HKa.out HCa.out HKa.out Daa.out).mono ?_
  rintro e w6 ⟨v0, v1, v2, rfl, R0, R1, R2, b6⟩
  have B6 := Lib.hid b6; clear b6
  replace BB := Lib.hid (below_step BB.out B6.out)
  replace HCa := Lib.hid (Kd.C_below HCa.out B6.out)
  replace HCb := Lib.hid (Kd.C_below HCb.out B6.out)
  replace HCp := Lib.hid (Kd.C_below HCp.out B6.out)
  replace HCq := Lib.hid (Kd.C_below HCq.out B6.out)
  replace HCr := Lib.hid (Kd.C_below HCr.out B6.out)
  replace HCs := Lib.hid (Kd.C_below HCs.out B6.out)
  replace HCt := Lib.hid (Kd.C_below HCt.out B6.out)
  replace HCu := Lib.hid (Kd.C_below HCu.out B6.out)
  obtain ⟨Ax, cx, rfl, hkx, hCx⟩ := Kd.R_reads R0
  have HCx := Lib.hid hCx; have HKx := Lib.hid hkx; clear hCx hkx R0
  obtain ⟨Ay, cy, rfl, hky, hCy⟩ := Kd.R_reads R1
  have HCy := Lib.hid hCy; have HKy := Lib.hid hky; clear hCy hky R1
  obtain ⟨Az, cz, rfl, hkz, hCz⟩ := Kd.R_reads R2
  have HCz := Lib.hid hCz; have HKz := Lib.hid hkz; clear hCz hkz R2
  go_wp2_with fail
  refine (hostlerref09_Same.calls K _ _ cm _ _ cm true _ HCp.out HKp.out HCt.out HKt.out S1.out).mono ?_
  rintro e w7 ⟨rfl, d7⟩
  have b7 := d7.below; clear d7
  have B7 := Lib.hid b7; clear b7
  replace BB := Lib.hid (below_step BB.out B7.out)
  replace HCa := Lib.hid (Kd.C_below HCa.out B7.out)
  replace HCb := Lib.hid (Kd.C_below HCb.out B7.out)
  replace HCp := Lib.hid (Kd.C_below HCp.out B7.out)
  replace HCq := Lib.hid (Kd.C_below HCq.out B7.out)
  replace HCr := Lib.hid (Kd.C_below HCr.out B7.out)
  replace HCs := Lib.hid (Kd.C_below HCs.out B7.out)
  replace HCt := Lib.hid (Kd.C_below HCt.out B7.out)
  replace HCu := Lib.hid (Kd.C_below HCu.out B7.out)
  replace HCx := Lib.hid (Kd.C_below HCx.out B7.out)
  replace HCy := Lib.hid (Kd.C_below HCy.out B7.out)
  replace HCz := Lib.hid (Kd.C_below HCz.out B7.out)
  go_wp2_with fail
  refine (hostlerref09_Same.calls K _ _ wn _ _ wn true _ HCq.out HKq.out HCs.out HKs.out S2.out).mono ?_
  rintro e w8 ⟨rfl, d8⟩
  have b8 := d8.below; clear d8
  have B8 := Lib.hid b8; clear b8
  replace BB := Lib.hid (below_step BB.out B8.out)
  replace HCa := Lib.hid (Kd.C_below HCa.out B8.out)
  replace HCb := Lib.hid (Kd.C_below HCb.out B8.out)
  replace HCp := Lib.hid (Kd.C_below HCp.out B8.out)
  replace HCq := Lib.hid (Kd.C_below HCq.out B8.out)
  replace HCr := Lib.hid (Kd.C_below HCr.out B8.out)
  replace HCs := Lib.hid (Kd.C_below HCs.out B8.out)
  replace HCt := Lib.hid (Kd.C_below HCt.out B8.out)
  replace HCu := Lib.hid (Kd.C_below HCu.out B8.out)
  replace HCx := Lib.hid (Kd.C_below HCx.out B8.out)
  replace HCy := Lib.hid (Kd.C_below HCy.out B8.out)
  replace HCz := Lib.hid (Kd.C_below HCz.out B8.out)
  go_wp2_with fail
  refine (hostlerref09_Same.calls K _ _ a _ _ a true _ HCz.out HKz.out HCa.out HKa.out S3.out).mono ?_
  rintro e w9 ⟨rfl, d9⟩
  have b9 := d9.below; clear d9
  have B9 := Lib.hid b9; clear b9
  replace BB := Lib.hid (below_step BB.out B9.out)
  replace HCa := Lib.hid (Kd.C_below HCa.out B9.out)
  replace HCb := Lib.hid (Kd.C_below HCb.out B9.out)
  replace HCp := Lib.hid (Kd.C_below HCp.out B9.out)
  replace HCq := Lib.hid (Kd.C_below HCq.out B9.out)
  replace HCr := Lib.hid (Kd.C_below HCr.out B9.out)
  replace HCs := Lib.hid (Kd.C_below HCs.out B9.out)
  replace HCt := Lib.hid (Kd.C_below HCt.out B9.out)
  replace HCu := Lib.hid (Kd.C_below HCu.out B9.out)
  replace HCx := Lib.hid (Kd.C_below HCx.out B9.out)
  replace HCy := Lib.hid (Kd.C_below HCy.out B9.out)
  replace HCz := Lib.hid (Kd.C_below HCz.out B9.out)
  go_wp2_with fail
  refine (diff_Join.calls none 0 [] _ _ a a _ (Kd.C_nil _ _) (Nat.le_refl _) HCa.out HKa.out J1.out).mono ?_
  rintro e w10 ⟨v, rfl, R0, b10⟩
  have B10 := Lib.hid b10; clear b10
  replace BB := Lib.hid (below_step BB.out B10.out)
  replace HCa := Lib.hid (Kd.C_below HCa.out B10.out)
  replace HCb := Lib.hid (Kd.C_below HCb.out B10.out)
  replace HCp := Lib.hid (Kd.C_below HCp.out B10.out)
  replace HCq := Lib.hid (Kd.C_below HCq.out B10.out)
  replace HCr := Lib.hid (Kd.C_below HCr.out B10.out)
  replace HCs := Lib.hid (Kd.C_below HCs.out B10.out)
  replace HCt := Lib.hid (Kd.C_below HCt.out B10.out)
  replace HCu := Lib.hid (Kd.C_below HCu.out B10.out)
  replace HCx := Lib.hid (Kd.C_below HCx.out B10.out)
  replace HCy := Lib.hid (Kd.C_below HCy.out B10.out)
  replace HCz := Lib.hid (Kd.C_below HCz.out B10.out)
  obtain ⟨Aj, cj, rfl, hkj, hCj⟩ := Kd.R_reads R0
  have HCj := Lib.hid hCj; have HKj := Lib.hid hkj; clear hCj hkj R0
  go_wp2_with fail
  refine (hostlerref09_Same.calls K _ _ a _ _ a true _ HCj.out HKj.out HCa.out HKa.out S3.out).mono ?_
  rintro e w11 ⟨rfl, d11⟩
  have b11 := d11.below; clear d11
  have B11 := Lib.hid b11; clear b11
  replace BB := Lib.hid (below_step BB.out B11.out)
  replace HCa := Lib.hid (Kd.C_below HCa.out B11.out)
  replace HCb := Lib.hid (Kd.C_below HCb.out B11.out)
  replace HCp := Lib.hid (Kd.C_below HCp.out B11.out)
  replace HCq := Lib.hid (Kd.C_below HCq.out B11.out)
  replace HCr := Lib.hid (Kd.C_below HCr.out B11.out)
  replace HCs := Lib.hid (Kd.C_below HCs.out B11.out)
  replace HCt := Lib.hid (Kd.C_below HCt.out B11.out)
  replace HCu := Lib.hid (Kd.C_below HCu.out B11.out)
  replace HCx := Lib.hid (Kd.C_below HCx.out B11.out)
  replace HCy := Lib.hid (Kd.C_below HCy.out B11.out)
  replace HCz := Lib.hid (Kd.C_below HCz.out B11.out)
  replace HCj := Lib.hid (Kd.C_below HCj.out B11.out)
  go_wp2_with fail
  refine (diff_Join.calls _ _ a none 0 [] [] _ HCa.out HKa.out (Kd.C_nil _ _) (Nat.le_refl _) J2.out).mono ?_
  rintro e w12 ⟨v, rfl, R0, b12⟩
  have B12 := Lib.hid b12; clear b12
  replace BB := Lib.hid (below_step BB.out B12.out)
  replace HCa := Lib.hid (Kd.C_below HCa.out B12.out)
  replace HCb := Lib.hid (Kd.C_below HCb.out B12.out)
  replace HCp := Lib.hid (Kd.C_below HCp.out B12.out)
  replace HCq := Lib.hid (Kd.C_below HCq.out B12.out)
  replace HCr := Lib.hid (Kd.C_below HCr.out B12.out)
  replace HCs := Lib.hid (Kd.C_below HCs.out B12.out)
  replace HCt := Lib.hid (Kd.C_below HCt.out B12.out)
  replace HCu := Lib.hid (Kd.C_below HCu.out B12.out)
  replace HCx := Lib.hid (Kd.C_below HCx.out B12.out)
  replace HCy := Lib.hid (Kd.C_below HCy.out B12.out)
  replace HCz := Lib.hid (Kd.C_below HCz.out B12.out)
  replace HCj := Lib.hid (Kd.C_below HCj.out B12.out)
  obtain ⟨Ak, ck, rfl, hkk, hCk⟩ := Kd.R_reads R0
  have HCk := Lib.hid hCk; have HKk := Lib.hid hkk; clear hCk hkk R0
  go_wp2_with fail
  go_ret
  exact ⟨rfl, BB.out⟩
end Go.Proofs.Ytnnnlbbgmdoehaa.PDiffTurned
