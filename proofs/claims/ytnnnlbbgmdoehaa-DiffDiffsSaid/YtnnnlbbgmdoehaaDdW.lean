/- DiffDiffs returns true, for all lists of texts: its walk. -/
import Derived.Test.YtnnnlbbgmdoehaaPureDiffDiffs
import Derived.Lib.Hide
namespace Go.Proofs.Ytnnnlbbgmdoehaa.PDiffDiffs
open Go.RowKit Go.Proofs.YtnnnlbbgmdoehaaW.PrintWords Go.Proofs.YtnnnlbbgmdoehaaW.PrintLast Go.Proofs.YtnnnlbbgmdoehaaW.PrintMore Go.Proofs.Ytnnnlbbgmdoehaa.Pure Go.Proofs.Ytnnnlbbgmdoehaa.Df
/-- A slice of texts that came in, as the printed functions read it. -/
theorem row_reads {a : Option Addr} {len cap : Nat} {z : List ByteArray} {w : World} (h : (a = none ∧ len = 0 ∧ cap = 0 ∧ z = []) ∨ ∃ x, a = some x ∧ len ≤ cap ∧ cap ≤ maxLen ∧ z.length = cap ∧ (∀ i, i < z.length → w.cell? (x.add i) = some (.string (z.getD i ByteArray.empty)))) :
    ∃ l, len = l.length ∧ Kd.C Kd.string w a l.length l ∧ l.length ≤ cap := by
  rcases h with ⟨rfl, rfl, rfl, rfl⟩ | ⟨x, rfl, h1, h2, h3, h4⟩
  · exact ⟨[], rfl, Kd.C_nil _ _, Nat.le_refl _⟩
  · have hl : (z.take len).length = len := by rw [List.length_take]; omega
    refine ⟨z.take len, hl.symm, ⟨rfl, by unfold maxLen at h2; omega, fun _ => ⟨x, rfl, fun j p hj => ⟨[.string p], rfl, rfl, fun i u hu => ?_⟩⟩⟩, by omega⟩
    obtain ⟨hj1, hj2⟩ := List.getElem?_eq_some_iff.1 hj
    have hj3 : j < z.length := by rw [hl] at hj1; omega
    obtain rfl : i = 0 := by
      cases i with
      | zero => rfl
      | succ i => simp at hu
    simp only [List.getElem?_cons_zero, Option.some.injEq] at hu
    rw [show j * Kd.string.sz + 0 = j from Nat.mul_one j, h4 j hj3, ← hu, List.getD_eq_getElem?_getD, List.getElem?_eq_getElem hj3, ← hj2, List.getElem_take]
    rfl
set_option maxHeartbeats 4000000 in
set_option maxRecDepth 100000 in
theorem diffs_walk (a0 : Option Addr) (len0 cap0 : Nat) (z0 : List ByteArray) (a1 : Option Addr) (len1 cap1 : Nat) (z1 : List ByteArray) (w : World) (w0 : ((a0 = none ∧ len0 = 0 ∧ cap0 = 0 ∧ z0 = []) ∨ ∃ x, a0 = some x ∧ len0 ≤ cap0 ∧ cap0 ≤ maxLen ∧ z0.length = cap0 ∧ (∀ i, i < z0.length → w.cell? (x.add i) = some (.string (z0.getD i ByteArray.empty))))) (w1 : ((a1 = none ∧ len1 = 0 ∧ cap1 = 0 ∧ z1 = []) ∨ ∃ x, a1 = some x ∧ len1 ≤ cap1 ∧ cap1 ≤ maxLen ∧ z1.length = cap1 ∧ (∀ i, i < z1.length → w.cell? (x.add i) = some (.string (z1.getD i ByteArray.empty))))) :
    Calls Try.prog 3 #[.slice a0 len0 cap0, .slice a1 len1 cap1] w fun e w' => e = .returned (.bool true) ∧ Below w.heap.size w w' := by
  obtain ⟨l0, rfl, hr0, hc0⟩ := row_reads w0
  obtain ⟨l1, rfl, hr1, hc1⟩ := row_reads w1
  have HR0 := Lib.hid (fun W (hb : Below w.heap.size w W) => Kd.C_below hr0 hb)
  have HR1 := Lib.hid (fun W (hb : Below w.heap.size w W) => Kd.C_below hr1 hb)
  obtain ⟨K, hK⟩ : ∃ K, K = 5000 := ⟨_, rfl⟩
  have g0 := few_is l0 K (by omega)
  have g1 := few_is l1 K (by omega)
  obtain ⟨sa, la⟩ := few_small l0
  obtain ⟨sb, lb⟩ := few_small l1
  generalize fewV l0 = a at g0 sa la
  generalize fewV l1 = b at g1 sb lb
  have d1 := diff_is sa sb
  have d2 := refdiff_is K (by omega) sa sb
  have c1 := check_is sa
  have c2 : hostlerref09_Check.f a = some (checkV a) := by unfold hostlerref09_Check.f checkF; rw [if_pos sa]
  have j1 := join_is sa sb
  have j2 := refjoin_is K (by omega) sa sb
  have jl := joinV_len la lb
  obtain ⟨e1, e2, e3⟩ := diffV_len la lb
  obtain ⟨pl, ql, rl, hpq⟩ : ∃ pl ql rl, diffV a b = (pl, ql, rl) := ⟨_, _, _, rfl⟩
  rw [hpq] at d1 d2 e1 e2 e3
  dsimp only at e1 e2 e3
  generalize joinV a b = J at j1 j2 jl
  generalize hcv : checkV a = cv at c1 c2
  have S1 := Lib.hid (same_is pl K (by omega) (by omega))
  have S2 := Lib.hid (same_is ql K (by omega) (by omega))
  have S3 := Lib.hid (same_is rl K (by omega) (by omega))
  have S4 := Lib.hid (same_is J K (by omega) (by omega))
  have G0 := Lib.hid g0
  have G1 := Lib.hid g1
  have D1 := Lib.hid d1
  have D2 := Lib.hid d2
  have C1 := Lib.hid c1
  have C2 := Lib.hid c2
  have J1 := Lib.hid j1
  have J2 := Lib.hid j2
  have tc : (cv == cv) = true := beq_self_eq_true _
  clear g0 g1 hr0 hr1 w0 w1 d1 d2 c1 c2 j1 j2 jl e1 e2 e3 hpq hcv hK sa sb la lb
  have BB := Lib.hid (Below.refl w.heap.size w)
  go_enter Try.func3, Try.ntmps3
  go_wp2_with fail
  refine (hostlerlaw09_lives.calls true _ lives_is).mono ?_
  rintro e w1 ⟨rfl, b1⟩
  have B1 := Lib.hid b1; clear b1
  replace BB := Lib.hid (below_step BB.out B1.out)
  go_wp2_with fail
  refine (hostlerlaw09_few.calls K _ _ l0 a _ (HR0.out w1 B1.out) hc0 G0.out).mono ?_
  rintro e w2 ⟨v, rfl, R0, b2⟩
  have HLa := Lib.hid (Kd.R_lt R0)
  have B2 := Lib.hid b2; clear b2
  replace BB := Lib.hid (below_step BB.out B2.out)
  have HOa := Lib.hid R0
  obtain ⟨Aa, ca, rfl, hka, hCa⟩ := Kd.R_reads R0
  have HCa := Lib.hid hCa; have HKa := Lib.hid hka; clear hCa hka R0
  have B12 := Lib.hid (below_step B1.out B2.out)
  go_wp2_with fail
  refine (hostlerlaw09_few.calls K _ _ l1 b _ (HR1.out w2 B12.out) hc1 G1.out).mono ?_
  rintro e w3 ⟨v, rfl, R0, b3⟩
  have B3 := Lib.hid b3; clear b3
  replace BB := Lib.hid (below_step BB.out B3.out)
  replace HCa := Lib.hid (Kd.C_below HCa.out B3.out)
  replace HOa := Lib.hid (Kd.R_below HOa.out B3.out)
  have HOb := Lib.hid R0
  obtain ⟨Ab, cb, rfl, hkb, hCb⟩ := Kd.R_reads R0
  have HCb := Lib.hid hCb; have HKb := Lib.hid hkb; clear hCb hkb R0
  go_wp2_with fail
  refine (diff_Diff.calls _ _ a _ _ b _ _ _ _ HCa.out HKa.out HCb.out HKb.out D1.out).mono ?_
  rintro e w4 ⟨v0, v1, v2, rfl, R0, R1, R2, b4⟩
  have B4 := Lib.hid b4; clear b4
  replace BB := Lib.hid (below_step BB.out B4.out)
  replace HCa := Lib.hid (Kd.C_below HCa.out B4.out)
  replace HCb := Lib.hid (Kd.C_below HCb.out B4.out)
  replace HOa := Lib.hid (Kd.R_below HOa.out B4.out)
  replace HOb := Lib.hid (Kd.R_below HOb.out B4.out)
  obtain ⟨Ap, cp, rfl, hkp, hCp⟩ := Kd.R_reads R0
  have HCp := Lib.hid hCp; have HKp := Lib.hid hkp; clear hCp hkp R0
  obtain ⟨Aq, cq, rfl, hkq, hCq⟩ := Kd.R_reads R1
  have HCq := Lib.hid hCq; have HKq := Lib.hid hkq; clear hCq hkq R1
  obtain ⟨Ar, cr, rfl, hkr, hCr⟩ := Kd.R_reads R2
  have HCr := Lib.hid hCr; have HKr := Lib.hid hkr; clear hCr hkr R2
  go_wp2_with fail
  refine (hostlerref09_Diff.calls K _ _ a _ _ b _ _ _ _ HCa.out HKa.out HCb.out HKb.out D2.out).mono ?_
  rintro e w5 ⟨v0, v1, v2, rfl, R0, R1, R2, b5⟩
  have B5 := Lib.hid b5; clear b5
  replace BB := Lib.hid (below_step BB.out B5.out)
  replace HCa := Lib.hid (Kd.C_below HCa.out B5.out)
  replace HCb := Lib.hid (Kd.C_below HCb.out B5.out)
  replace HCp := Lib.hid (Kd.C_below HCp.out B5.out)
  replace HCq := Lib.hid (Kd.C_below HCq.out B5.out)
  replace HCr := Lib.hid (Kd.C_below HCr.out B5.out)
  replace HOa := Lib.hid (Kd.R_below HOa.out B5.out)
  replace HOb := Lib.hid (Kd.R_below HOb.out B5.out)
  obtain ⟨Ax, cx, rfl, hkx, hCx⟩ := Kd.R_reads R0
  have HCx := Lib.hid hCx; have HKx := Lib.hid hkx; clear hCx hkx R0
  obtain ⟨Ay, cy, rfl, hky, hCy⟩ := Kd.R_reads R1
  have HCy := Lib.hid hCy; have HKy := Lib.hid hky; clear hCy hky R1
  obtain ⟨Az, cz, rfl, hkz, hCz⟩ := Kd.R_reads R2
  have HCz := Lib.hid hCz; have HKz := Lib.hid hkz; clear hCz hkz R2
  go_wp2_with fail
  refine (diff_Check.calls _ _ a _ _ HCa.out HKa.out C1.out).mono ?_
  rintro e w6 ⟨rfl, b6⟩
  have B6 := Lib.hid b6; clear b6
  replace BB := Lib.hid (below_step BB.out B6.out)
  replace HCa := Lib.hid (Kd.C_below HCa.out B6.out)
  replace HCb := Lib.hid (Kd.C_below HCb.out B6.out)
  replace HCp := Lib.hid (Kd.C_below HCp.out B6.out)
  replace HCq := Lib.hid (Kd.C_below HCq.out B6.out)
  replace HCr := Lib.hid (Kd.C_below HCr.out B6.out)
  replace HCx := Lib.hid (Kd.C_below HCx.out B6.out)
  replace HCy := Lib.hid (Kd.C_below HCy.out B6.out)
  replace HCz := Lib.hid (Kd.C_below HCz.out B6.out)
  replace HOa := Lib.hid (Kd.R_below HOa.out B6.out)
  replace HOb := Lib.hid (Kd.R_below HOb.out B6.out)
  go_wp2_with fail
  refine (hostlerref09_Check.calls _ _ a _ _ HCa.out HKa.out C2.out).mono ?_
  rintro e w7 ⟨rfl, d7⟩
  have b7 := d7.below; clear d7
  have B7 := Lib.hid b7; clear b7
  replace BB := Lib.hid (below_step BB.out B7.out)
  replace HCa := Lib.hid (Kd.C_below HCa.out B7.out)
  replace HCb := Lib.hid (Kd.C_below HCb.out B7.out)
  replace HCp := Lib.hid (Kd.C_below HCp.out B7.out)
  replace HCq := Lib.hid (Kd.C_below HCq.out B7.out)
  replace HCr := Lib.hid (Kd.C_below HCr.out B7.out)
  replace HCx := Lib.hid (Kd.C_below HCx.out B7.out)
  replace HCy := Lib.hid (Kd.C_below HCy.out B7.out)
  replace HCz := Lib.hid (Kd.C_below HCz.out B7.out)
  replace HOa := Lib.hid (Kd.R_below HOa.out B7.out)
  replace HOb := Lib.hid (Kd.R_below HOb.out B7.out)
  go_wp2_with fail
  refine (hostlerref09_Same.calls K _ _ pl _ _ pl true _ HCp.out HKp.out HCx.out HKx.out S1.out).mono ?_
  rintro e w8 ⟨rfl, d8⟩
  have b8 := d8.below; clear d8
  have B8 := Lib.hid b8; clear b8
  replace BB := Lib.hid (below_step BB.out B8.out)
  replace HCa := Lib.hid (Kd.C_below HCa.out B8.out)
  replace HCb := Lib.hid (Kd.C_below HCb.out B8.out)
  replace HCp := Lib.hid (Kd.C_below HCp.out B8.out)
  replace HCq := Lib.hid (Kd.C_below HCq.out B8.out)
  replace HCr := Lib.hid (Kd.C_below HCr.out B8.out)
  replace HCx := Lib.hid (Kd.C_below HCx.out B8.out)
  replace HCy := Lib.hid (Kd.C_below HCy.out B8.out)
  replace HCz := Lib.hid (Kd.C_below HCz.out B8.out)
  replace HOa := Lib.hid (Kd.R_below HOa.out B8.out)
  replace HOb := Lib.hid (Kd.R_below HOb.out B8.out)
  go_wp2_with fail
  refine (hostlerref09_Same.calls K _ _ ql _ _ ql true _ HCq.out HKq.out HCy.out HKy.out S2.out).mono ?_
  rintro e w9 ⟨rfl, d9⟩
  have b9 := d9.below; clear d9
  have B9 := Lib.hid b9; clear b9
  replace BB := Lib.hid (below_step BB.out B9.out)
  replace HCa := Lib.hid (Kd.C_below HCa.out B9.out)
  replace HCb := Lib.hid (Kd.C_below HCb.out B9.out)
  replace HCp := Lib.hid (Kd.C_below HCp.out B9.out)
  replace HCq := Lib.hid (Kd.C_below HCq.out B9.out)
  replace HCr := Lib.hid (Kd.C_below HCr.out B9.out)
  replace HCx := Lib.hid (Kd.C_below HCx.out B9.out)
  replace HCy := Lib.hid (Kd.C_below HCy.out B9.out)
  replace HCz := Lib.hid (Kd.C_below HCz.out B9.out)
  replace HOa := Lib.hid (Kd.R_below HOa.out B9.out)
  replace HOb := Lib.hid (Kd.R_below HOb.out B9.out)
  go_wp2_with fail
  refine (hostlerref09_Same.calls K _ _ rl _ _ rl true _ HCr.out HKr.out HCz.out HKz.out S3.out).mono ?_
  rintro e w10 ⟨rfl, d10⟩
  have b10 := d10.below; clear d10
  have B10 := Lib.hid b10; clear b10
  replace BB := Lib.hid (below_step BB.out B10.out)
  replace HCa := Lib.hid (Kd.C_below HCa.out B10.out)
  replace HCb := Lib.hid (Kd.C_below HCb.out B10.out)
  replace HCp := Lib.hid (Kd.C_below HCp.out B10.out)
  replace HCq := Lib.hid (Kd.C_below HCq.out B10.out)
  replace HCr := Lib.hid (Kd.C_below HCr.out B10.out)
  replace HCx := Lib.hid (Kd.C_below HCx.out B10.out)
  replace HCy := Lib.hid (Kd.C_below HCy.out B10.out)
  replace HCz := Lib.hid (Kd.C_below HCz.out B10.out)
  replace HOa := Lib.hid (Kd.R_below HOa.out B10.out)
  replace HOb := Lib.hid (Kd.R_below HOb.out B10.out)
  go_wp2_with fail
  refine (diff_Join.calls _ _ a _ _ b _ _ HCa.out HKa.out HCb.out HKb.out J1.out).mono ?_
  rintro e w11 ⟨v, rfl, R0, b11⟩
  have B11 := Lib.hid b11; clear b11
  replace BB := Lib.hid (below_step BB.out B11.out)
  replace HCa := Lib.hid (Kd.C_below HCa.out B11.out)
  replace HCb := Lib.hid (Kd.C_below HCb.out B11.out)
  replace HCp := Lib.hid (Kd.C_below HCp.out B11.out)
  replace HCq := Lib.hid (Kd.C_below HCq.out B11.out)
  replace HCr := Lib.hid (Kd.C_below HCr.out B11.out)
  replace HCx := Lib.hid (Kd.C_below HCx.out B11.out)
  replace HCy := Lib.hid (Kd.C_below HCy.out B11.out)
  replace HCz := Lib.hid (Kd.C_below HCz.out B11.out)
  replace HOa := Lib.hid (Kd.R_below HOa.out B11.out)
  replace HOb := Lib.hid (Kd.R_below HOb.out B11.out)
  have HOj := Lib.hid R0
  obtain ⟨Aj, cj, rfl, hkj, hCj⟩ := Kd.R_reads R0
  have HCj := Lib.hid hCj; have HKj := Lib.hid hkj; clear hCj hkj R0
  go_wp2_with fail
  have hQ := hostlerref09_Join.calls K (fun k => (Value.slice Aa a.length ca).ownBlock = some k) (.slice Aa a.length ca) a Ab cb b _ w1 w11 (below_step (below_step B2.out B3.out) (below_step (below_step (below_step (below_step (below_step (below_step (below_step (B4.out) B5.out) B6.out) B7.out) B8.out) B9.out) B10.out) B11.out)) ?ho ?hr1 HKb.out J2.out
  case ho => exact ⟨fun k hk => hk, HOa.out.2.imp_ (fun _ _ hp => hp)⟩
  case hr1 =>
    intro W hW
    have hb2 := Kd.R_move (Kd.R_bound HOb.out) (fun k hk => hW.2 k hk.2.2.1 (fun he => by have h1 := HLa.out k he; have h2 := hk.2.1; omega))
    exact (Kd.R_reads' hb2).2.2
  refine hQ.mono ?_
  rintro e wz ⟨v, rfl, RZ, bz, kz⟩
  have hsz := (below_step (below_step (below_step (below_step (below_step (below_step (below_step (B3.out) B4.out) B5.out) B6.out) B7.out) B8.out) B9.out) B10.out).size
  have hj2 := Kd.R_move (Kd.R_bound HOj.out) (fun k hk => kz.2 k hk.2.2.1 (fun he => by have h1 := HLa.out k he; have h2 := hk.2.1; omega))
  have HCJ := Lib.hid (Kd.R_reads' hj2).2.2
  obtain ⟨Av, cv2, rfl, hkv, hCv⟩ := Kd.R_reads RZ
  have HCV := Lib.hid hCv
  have HKV := Lib.hid hkv
  have BZ := Lib.hid (below_step B1.out bz)
  clear hQ hj2 RZ hCv hkv bz kz hsz
  go_wp2_with fail
  refine (hostlerref09_Same.calls K _ _ J _ _ J true _ HCJ.out HKj.out HCV.out HKV.out S4.out).mono ?_
  rintro e wy ⟨rfl, dy⟩
  have BY := Lib.hid (below_step BZ.out dy.below)
  clear dy
  go_wp2_with fail
  go_ret
  exact ⟨rfl, BY.out⟩
end Go.Proofs.Ytnnnlbbgmdoehaa.PDiffDiffs
