/- DiffBack: a part of its walk. -/
import Derived.Test.YtnnnlbbgmdoehaaDoorRdW
import Derived.Lib.Hide
namespace Go.Proofs.YtnnnlbbgmdoehaaDoor.PDiffReads
open Go.Proofs.YtnnnlbbgmdoehaaDoor.Rd Go.RowKit Go.Proofs.YtnnnlbbgmdoehaaDoorW.PrintWords Go.Proofs.YtnnnlbbgmdoehaaDoorW.PrintLast Go.Proofs.YtnnnlbbgmdoehaaDoorW.PrintMore Go.Proofs.YtnnnlbbgmdoehaaDoor.Pure Go.Proofs.YtnnnlbbgmdoehaaDoor.Df Go.Proofs.YtnnnlbbgmdoehaaDoor
set_option maxHeartbeats 4000000 in
set_option maxRecDepth 100000 in
theorem back_4_1 (K : Nat) (A1 : Option Addr) (cap0 : Nat) (l0 a pl rl : List ByteArray) (s t ta a0s : ByteArray) (m ci pe re : Int) (w : World) (HR0 : Hid (∀ W, Below w.heap.size w W → Kd.C Kd.string W A1 l0.length l0)) (hc0 : l0.length ≤ cap0) (HM : Hid (HM w)) (_ : s.size ≤ 9223372036854775807)
    (hmin : ∀ W ats ty, (Builtin.min_ ats ty #[.int .i64 (s.size : Int), .int .i64 200]).run Tryd.prog W = .ok (.int .i64 m) W) (hsl : ∀ W, (Instr.slice 9 (.string s) none (some (.int .i64 m)) none).run Tryd.prog W = .ok (.string t) W)
    (G0 : Hid (hostlerlaw09_few.f K l0 = some a)) (S1 : Hid (hostlerref09_Same.f K a a = some true)) (A0 : Hid (a.getD 0 ByteArray.empty = a0s))
    (HTX : Hid (∀ A c W, Kd.C Kd.string W A a.length a → a.length ≤ c → Calls Tryd.prog 11 #[.slice A a.length c] W fun e w' => e = .returned (.string ta) ∧ Below W.heap.size W w'))
    (HRA : Hid (∀ W, Rd.HM W → Calls Tryd.prog 7 #[.string ta] W fun e w' => ∃ v, e = .returned (.tuple #[v, .int .i64 pe]) ∧ Row w' v pl ∧ Below W.heap.size W w'))
    (HCK : Hid (∀ A c W, Kd.C Kd.string W A a.length a → Calls Tryd.prog 14 #[.slice A a.length c] W fun e w' => e = .returned (.int .i64 ci) ∧ Below W.heap.size W w'))
    (HRT : Hid (∀ W, Rd.HM W → Calls Tryd.prog 7 #[.string t] W fun e w' => ∃ v, e = .returned (.tuple #[v, .int .i64 re]) ∧ Row w' v rl ∧ Below W.heap.size W w'))
    (hca : ci = 0) (h1 : a.length = 1) (h2 : a0s.toList ≠ [45]) (hp : a = pl) (he : pe = 0) (hre : (re != 0) = true) :
    Calls Tryd.prog 4 #[.slice A1 l0.length cap0, .string s] w fun e w' => e = .returned (.bool true) ∧ Below w.heap.size w w' := by
  have t1 : ((a.length : Int) == 1) = true := by rw [h1]; rfl
  have b1 : 1 ≤ a.length := by omega
  have b2 : 0 < (a.length : Int) := by omega
  have b3 : 0 < a.length := by omega
  have t2 : (a0s.toList == [45]) = false := beq_eq_false_iff_ne.2 h2
  clear h1 h2
  subst hp; subst he
  subst hca
  have BB := Lib.hid (Below.refl w.heap.size w)
  go_enter Tryd.func4, Tryd.ntmps4
  go_wp2_with fail
  refine (hostlerlaw09_lives.calls true _ lives_is).mono ?_
  rintro e w1 ⟨rfl, b1⟩
  have B1 := Lib.hid b1; clear b1
  replace BB := Lib.hid (below_step BB.out B1.out)
  replace HM := Lib.hid (HM.out.below B1.out)
  go_wp2_with fail
  refine (hostlerlaw09_few.calls K _ _ l0 a _ (HR0.out w1 B1.out) hc0 G0.out).mono ?_
  rintro e w2 ⟨v, rfl, R0, b2⟩
  have B2 := Lib.hid b2; clear b2
  replace BB := Lib.hid (below_step BB.out B2.out)
  replace HM := Lib.hid (HM.out.below B2.out)
  obtain ⟨Aa, ca, rfl, hka, hCa⟩ := Kd.R_reads R0
  have HCa := Lib.hid hCa; have HKa := Lib.hid hka; clear hCa hka R0
  go_wp2_with fail
  refine (HTX.out _ _ _ HCa.out HKa.out).mono ?_
  rintro e w3 ⟨rfl, b3⟩
  have B3 := Lib.hid b3; clear b3
  replace BB := Lib.hid (below_step BB.out B3.out)
  replace HCa := Lib.hid (Kd.C_below HCa.out B3.out)
  replace HM := Lib.hid (HM.out.below B3.out)
  go_wp2_with fail
  refine (HRA.out _ HM.out).mono ?_
  rintro e w4 ⟨v, rfl, R0, b4⟩
  have B4 := Lib.hid b4; clear b4
  replace BB := Lib.hid (below_step BB.out B4.out)
  replace HCa := Lib.hid (Kd.C_below HCa.out B4.out)
  replace HM := Lib.hid (HM.out.below B4.out)
  obtain ⟨Ap, cp, rfl, hkp, hCp⟩ := R0
  have HCp := Lib.hid hCp; have HKp := Lib.hid hkp; clear hCp hkp
  go_wp2_with fail
  refine (HCK.out _ _ _ HCa.out).mono ?_
  rintro e w5 ⟨rfl, b5⟩
  have B5 := Lib.hid b5; clear b5
  replace BB := Lib.hid (below_step BB.out B5.out)
  replace HCa := Lib.hid (Kd.C_below HCa.out B5.out)
  replace HCp := Lib.hid (Kd.C_below HCp.out B5.out)
  replace HM := Lib.hid (HM.out.below B5.out)
  obtain ⟨bk, off, rfl, hcells⟩ := C_cell HCa.out (k := 0) (by omega)
  have hc0 := hcells 0 (by omega)
  rw [A0.out, Nat.add_zero] at hc0
  clear hcells
  go_wp2_with fail
  refine (hostlerref09_Same.calls K _ _ a _ _ a true _ HCp.out HKp.out HCa.out HKa.out S1.out).mono ?_
  rintro e w6 ⟨rfl, d6⟩
  have b6 := d6.below; clear d6
  have B6 := Lib.hid b6; clear b6
  replace BB := Lib.hid (below_step BB.out B6.out)
  replace HCa := Lib.hid (Kd.C_below HCa.out B6.out)
  replace HCp := Lib.hid (Kd.C_below HCp.out B6.out)
  replace HM := Lib.hid (HM.out.below B6.out)
  go_wp2_with fail
  refine (HRT.out _ HM.out).mono ?_
  rintro e w7 ⟨v, rfl, R0, b7⟩
  have B7 := Lib.hid b7; clear b7
  replace BB := Lib.hid (below_step BB.out B7.out)
  replace HCa := Lib.hid (Kd.C_below HCa.out B7.out)
  replace HCp := Lib.hid (Kd.C_below HCp.out B7.out)
  replace HM := Lib.hid (HM.out.below B7.out)
  obtain ⟨Aq, cq, rfl, hkq, hCq⟩ := R0
  have HCq := Lib.hid hCq; have HKq := Lib.hid hkq; clear hCq hkq
  go_wp2_with fail
  go_ret
  exact ⟨rfl, BB.out⟩
set_option maxHeartbeats 4000000 in
set_option maxRecDepth 100000 in
theorem back_4_2 (K : Nat) (A1 : Option Addr) (cap0 : Nat) (l0 a pl rl : List ByteArray) (s t ta a0s : ByteArray) (m ci pe re : Int) (w : World) (HR0 : Hid (∀ W, Below w.heap.size w W → Kd.C Kd.string W A1 l0.length l0)) (hc0 : l0.length ≤ cap0) (HM : Hid (HM w)) (_ : s.size ≤ 9223372036854775807)
    (hmin : ∀ W ats ty, (Builtin.min_ ats ty #[.int .i64 (s.size : Int), .int .i64 200]).run Tryd.prog W = .ok (.int .i64 m) W) (hsl : ∀ W, (Instr.slice 9 (.string s) none (some (.int .i64 m)) none).run Tryd.prog W = .ok (.string t) W)
    (G0 : Hid (hostlerlaw09_few.f K l0 = some a)) (S1 : Hid (hostlerref09_Same.f K a a = some true)) (A0 : Hid (a.getD 0 ByteArray.empty = a0s))
    (HTX : Hid (∀ A c W, Kd.C Kd.string W A a.length a → a.length ≤ c → Calls Tryd.prog 11 #[.slice A a.length c] W fun e w' => e = .returned (.string ta) ∧ Below W.heap.size W w'))
    (HRA : Hid (∀ W, Rd.HM W → Calls Tryd.prog 7 #[.string ta] W fun e w' => ∃ v, e = .returned (.tuple #[v, .int .i64 pe]) ∧ Row w' v pl ∧ Below W.heap.size W w'))
    (HCK : Hid (∀ A c W, Kd.C Kd.string W A a.length a → Calls Tryd.prog 14 #[.slice A a.length c] W fun e w' => e = .returned (.int .i64 ci) ∧ Below W.heap.size W w'))
    (HRT : Hid (∀ W, Rd.HM W → Calls Tryd.prog 7 #[.string t] W fun e w' => ∃ v, e = .returned (.tuple #[v, .int .i64 re]) ∧ Row w' v rl ∧ Below W.heap.size W w'))
    (hca : ci = 0) (h1 : a.length = 1) (h2 : a0s.toList ≠ [45]) (hp : a = pl) (he : pe = 0) (hre : re = 0) (htq : ∀ A c W, Kd.C Kd.string W A rl.length rl → rl.length ≤ c → Calls Tryd.prog 11 #[.slice A rl.length c] W fun e w' => e = .returned (.string t) ∧ Below W.heap.size W w') (hkq : ∀ A c W, Kd.C Kd.string W A rl.length rl → Calls Tryd.prog 14 #[.slice A rl.length c] W fun e w' => e = .returned (.int .i64 0) ∧ Below W.heap.size W w') :
    Calls Tryd.prog 4 #[.slice A1 l0.length cap0, .string s] w fun e w' => e = .returned (.bool true) ∧ Below w.heap.size w w' := by
  have t1 : ((a.length : Int) == 1) = true := by rw [h1]; rfl
  have b1 : 1 ≤ a.length := by omega
  have b2 : 0 < (a.length : Int) := by omega
  have b3 : 0 < a.length := by omega
  have t2 : (a0s.toList == [45]) = false := beq_eq_false_iff_ne.2 h2
  clear h1 h2
  subst hp; subst he
  subst hca
  subst hre
  have HTQ := Lib.hid htq; have HKQ := Lib.hid hkq; clear htq hkq
  have BB := Lib.hid (Below.refl w.heap.size w)
  go_enter Tryd.func4, Tryd.ntmps4
  go_wp2_with fail
  refine (hostlerlaw09_lives.calls true _ lives_is).mono ?_
  rintro e w1 ⟨rfl, b1⟩
  have B1 := Lib.hid b1; clear b1
  replace BB := Lib.hid (below_step BB.out B1.out)
  replace HM := Lib.hid (HM.out.below B1.out)
  go_wp2_with fail
  refine (hostlerlaw09_few.calls K _ _ l0 a _ (HR0.out w1 B1.out) hc0 G0.out).mono ?_
  rintro e w2 ⟨v, rfl, R0, b2⟩
  have B2 := Lib.hid b2; clear b2
  replace BB := Lib.hid (below_step BB.out B2.out)
  replace HM := Lib.hid (HM.out.below B2.out)
  obtain ⟨Aa, ca, rfl, hka, hCa⟩ := Kd.R_reads R0
  have HCa := Lib.hid hCa; have HKa := Lib.hid hka; clear hCa hka R0
  go_wp2_with fail
  refine (HTX.out _ _ _ HCa.out HKa.out).mono ?_
  rintro e w3 ⟨rfl, b3⟩
  have B3 := Lib.hid b3; clear b3
  replace BB := Lib.hid (below_step BB.out B3.out)
  replace HCa := Lib.hid (Kd.C_below HCa.out B3.out)
  replace HM := Lib.hid (HM.out.below B3.out)
  go_wp2_with fail
  refine (HRA.out _ HM.out).mono ?_
  rintro e w4 ⟨v, rfl, R0, b4⟩
  have B4 := Lib.hid b4; clear b4
  replace BB := Lib.hid (below_step BB.out B4.out)
  replace HCa := Lib.hid (Kd.C_below HCa.out B4.out)
  replace HM := Lib.hid (HM.out.below B4.out)
  obtain ⟨Ap, cp, rfl, hkp, hCp⟩ := R0
  have HCp := Lib.hid hCp; have HKp := Lib.hid hkp; clear hCp hkp
  go_wp2_with fail
  refine (HCK.out _ _ _ HCa.out).mono ?_
  rintro e w5 ⟨rfl, b5⟩
  have B5 := Lib.hid b5; clear b5
  replace BB := Lib.hid (below_step BB.out B5.out)
  replace HCa := Lib.hid (Kd.C_below HCa.out B5.out)
  replace HCp := Lib.hid (Kd.C_below HCp.out B5.out)
  replace HM := Lib.hid (HM.out.below B5.out)
  obtain ⟨bk, off, rfl, hcells⟩ := C_cell HCa.out (k := 0) (by omega)
  have hc0 := hcells 0 (by omega)
  rw [A0.out, Nat.add_zero] at hc0
  clear hcells
  go_wp2_with fail
  refine (hostlerref09_Same.calls K _ _ a _ _ a true _ HCp.out HKp.out HCa.out HKa.out S1.out).mono ?_
  rintro e w6 ⟨rfl, d6⟩
  have b6 := d6.below; clear d6
  have B6 := Lib.hid b6; clear b6
  replace BB := Lib.hid (below_step BB.out B6.out)
  replace HCa := Lib.hid (Kd.C_below HCa.out B6.out)
  replace HCp := Lib.hid (Kd.C_below HCp.out B6.out)
  replace HM := Lib.hid (HM.out.below B6.out)
  go_wp2_with fail
  refine (HRT.out _ HM.out).mono ?_
  rintro e w7 ⟨v, rfl, R0, b7⟩
  have B7 := Lib.hid b7; clear b7
  replace BB := Lib.hid (below_step BB.out B7.out)
  replace HCa := Lib.hid (Kd.C_below HCa.out B7.out)
  replace HCp := Lib.hid (Kd.C_below HCp.out B7.out)
  replace HM := Lib.hid (HM.out.below B7.out)
  obtain ⟨Aq, cq, rfl, hkq, hCq⟩ := R0
  have HCq := Lib.hid hCq; have HKq := Lib.hid hkq; clear hCq hkq
  go_wp2_with fail
  refine (HTQ.out _ _ _ HCq.out HKq.out).mono ?_
  rintro e w8 ⟨rfl, b8⟩
  have B8 := Lib.hid b8; clear b8
  replace BB := Lib.hid (below_step BB.out B8.out)
  replace HCa := Lib.hid (Kd.C_below HCa.out B8.out)
  replace HCp := Lib.hid (Kd.C_below HCp.out B8.out)
  replace HCq := Lib.hid (Kd.C_below HCq.out B8.out)
  replace HM := Lib.hid (HM.out.below B8.out)
  go_wp2_with fail
  refine (HKQ.out _ _ _ HCq.out).mono ?_
  rintro e w9 ⟨rfl, b9⟩
  have B9 := Lib.hid b9; clear b9
  replace BB := Lib.hid (below_step BB.out B9.out)
  replace HCa := Lib.hid (Kd.C_below HCa.out B9.out)
  replace HCp := Lib.hid (Kd.C_below HCp.out B9.out)
  replace HCq := Lib.hid (Kd.C_below HCq.out B9.out)
  replace HM := Lib.hid (HM.out.below B9.out)
  go_wp2_with fail
  go_ret
  exact ⟨rfl, BB.out⟩
end Go.Proofs.YtnnnlbbgmdoehaaDoor.PDiffReads
