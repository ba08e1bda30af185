/- DiffReads and DiffBack return true, for all lists of texts and all texts: their walks. -/
import Derived.Test.YtnnnlbbgmdoehaaDoorPureReads
import Derived.Lib.Hide
namespace Go.Proofs.YtnnnlbbgmdoehaaDoor.PDiffReads
open Go.Proofs.YtnnnlbbgmdoehaaDoor.Rd Go.RowKit Go.Proofs.YtnnnlbbgmdoehaaDoorW.PrintWords Go.Proofs.YtnnnlbbgmdoehaaDoorW.PrintLast Go.Proofs.YtnnnlbbgmdoehaaDoorW.PrintMore Go.Proofs.YtnnnlbbgmdoehaaDoor.Pure Go.Proofs.YtnnnlbbgmdoehaaDoor.Df Go.Proofs.YtnnnlbbgmdoehaaDoor
/-- A slice of texts that came in, as the printed functions read it. -/
theorem row_reads {a : Option Addr} {len cap : Nat} {z : List ByteArray} {w : World} (h : (a = none ∧ len = 0 ∧ cap = 0 ∧ z = []) ∨ ∃ x, a = some x ∧ len ≤ cap ∧ cap ≤ maxLen ∧ z.length = cap ∧ (∀ i, i < z.length → w.cell? (x.add i) = some (.string (z.getD i ByteArray.empty)))) :
    ∃ l, len = l.length ∧ Kd.C Kd.string w a l.length l ∧ l.length ≤ cap := by
  rcases h with ⟨rfl, rfl, rfl, rfl⟩ | ⟨x, rfl, h1, h2, h3, h4⟩
  · exact ⟨[], rfl, Kd.C_nil _ _, Nat.le_refl _⟩
  · have hl : (z.take len).length = len := by rw [List.length_take]; omega
    refine ⟨z.take len, hl.symm, ⟨rfl, by unfold maxLen at h2; omega, fun _ => ⟨x, rfl, fun j p hj => ⟨[.string p], rfl, rfl, fun i u hu => ?_⟩⟩⟩, by omega⟩
    obtain ⟨hj1, hj2⟩ := List.getElem?_eq_some_iff.1 hj
    have hj3 : j < z.length := by rw [hl] at hj1; omega
    obtain rfl : i = 0 := by
      cases i with
      | zero => rfl
      | succ i => simp at hu
    simp only [List.getElem?_cons_zero, Option.some.injEq] at hu
    rw [show j * Kd.string.sz + 0 = j from Nat.mul_one j, h4 j hj3, ← hu, List.getD_eq_getElem?_getD, List.getElem?_eq_getElem hj3, ← hj2, List.getElem_take]
    rfl
/-- The first 200 bytes of a text, as the walk meets them. -/
theorem cut_facts (s : ByteArray) : ∃ (m : Int) (t : ByteArray), (∀ W ats ty, (Builtin.min_ ats ty #[.int .i64 (s.size : Int), .int .i64 200]).run Tryd.prog W = .ok (.int .i64 m) W) ∧ (∀ W, (Instr.slice 9 (.string s) none (some (.int .i64 m)) none).run Tryd.prog W = .ok (.string t) W) ∧ t.size ≤ 200 := by
  refine ⟨mn (s.size : Int) 200, s.extract 0 (mn (s.size : Int) 200).toNat, fun W ats ty => ?_, fun W => ?_, ?_⟩
  · rw [min_two, min2_int]
    rfl
  · exact run_slice_string_h (w := W) (ht := Tryd.underlying9) (kh := .i64) (h := mn (s.size : Int) 200) (h0 := by unfold mn; split <;> omega) (h2 := by unfold mn; split <;> omega)
  · rw [ByteArray.size_extract]
    unfold mn
    split <;> omega
set_option maxHeartbeats 4000000 in
set_option maxRecDepth 100000 in
theorem reads_walk (a0 : Option Addr) (len0 cap0 : Nat) (z0 : List ByteArray) (s : ByteArray) (w : World) (w0 : ((a0 = none ∧ len0 = 0 ∧ cap0 = 0 ∧ z0 = []) ∨ ∃ x, a0 = some x ∧ len0 ≤ cap0 ∧ cap0 ≤ maxLen ∧ z0.length = cap0 ∧ (∀ i, i < z0.length → w.cell? (x.add i) = some (.string (z0.getD i ByteArray.empty))))) (ws : s.size ≤ maxLen) (hmx : HM w) :
    Calls Tryd.prog 3 #[.slice a0 len0 cap0, .string s] w fun e w' => e = .returned (.bool true) ∧ Below w.heap.size w w' := by
  unfold maxLen at ws
  obtain ⟨l0, rfl, hr0, hc0⟩ := row_reads w0
  have HR0 := Lib.hid (fun W (hb : Below w.heap.size w W) => Kd.C_below hr0 hb)
  obtain ⟨m, t, hmin, hsl, ht2⟩ := cut_facts s
  obtain ⟨K, hK⟩ : ∃ K, K = 5000 := ⟨_, rfl⟩
  have g0 := few_is l0 K (by omega)
  obtain ⟨sa, la⟩ := few_small l0
  generalize fewV l0 = a at g0 sa la
  have rf := refread_is t K (by omega) (by omega)
  have hsm := small_len (readV_small t (by omega))
  obtain ⟨pl, pe, hpq⟩ : ∃ pl pe, readV t = (pl, pe) := ⟨_, _, rfl⟩
  have hrd := fun W hW => read_any t (by omega : t.size ≤ 999) W hW
  rw [hpq] at rf hsm hrd
  dsimp only at hsm hrd
  have nm := name_is t K (by omega) (by omega)
  have hnm := name_any t (by omega)
  generalize nameB t = nb at nm hnm
  have tx := reftext_is a K sa (by omega)
  have htx := fun A c W h1 h2 => text_any A c a W h1 h2 sa
  generalize textV a = ta at tx htx
  have S1 := Lib.hid (same_is pl K (by omega) (by omega))
  have G0 := Lib.hid g0
  have RF := Lib.hid rf
  have NM := Lib.hid nm
  have TX := Lib.hid tx
  have HRD := Lib.hid hrd
  have HNM := Lib.hid hnm
  have HTX := Lib.hid htx
  have HM := Lib.hid hmx
  clear g0 hr0 w0 rf hsm hpq nm tx hrd hnm htx hmx hK sa la ht2
  have BB := Lib.hid (Below.refl w.heap.size w)
  go_enter Tryd.func3, Tryd.ntmps3
  go_wp2_with fail
  refine (hostlerlaw09_lives.calls true _ lives_is).mono ?_
  rintro e w1 ⟨rfl, b1⟩
  have B1 := Lib.hid b1; clear b1
  replace BB := Lib.hid (below_step BB.out B1.out)
  replace HM := Lib.hid (HM.out.below B1.out)
  go_wp2_with fail
  refine (hostlerlaw09_few.calls K _ _ l0 a _ (HR0.out w1 B1.out) hc0 G0.out).mono ?_
  rintro e w2 ⟨v, rfl, R0, b2⟩
  have B2 := Lib.hid b2; clear b2
  replace BB := Lib.hid (below_step BB.out B2.out)
  replace HM := Lib.hid (HM.out.below B2.out)
  obtain ⟨Aa, ca, rfl, hka, hCa⟩ := Kd.R_reads R0
  have HCa := Lib.hid hCa; have HKa := Lib.hid hka; clear hCa hka R0
  go_wp2_with fail
  refine (HRD.out _ HM.out).mono ?_
  rintro e w3 ⟨v, rfl, R0, b3⟩
  have B3 := Lib.hid b3; clear b3
  replace BB := Lib.hid (below_step BB.out B3.out)
  replace HCa := Lib.hid (Kd.C_below HCa.out B3.out)
  replace HM := Lib.hid (HM.out.below B3.out)
  obtain ⟨Ap, cp, rfl, hkp, hCp⟩ := R0
  have HCp := Lib.hid hCp; have HKp := Lib.hid hkp; clear hCp hkp
  go_wp2_with fail
  refine (hostlerref09_Read.calls K t _ _ _ RF.out).mono ?_
  rintro e w4 ⟨v, rfl, R0, b4⟩
  have B4 := Lib.hid b4; clear b4
  replace BB := Lib.hid (below_step BB.out B4.out)
  replace HCa := Lib.hid (Kd.C_below HCa.out B4.out)
  replace HCp := Lib.hid (Kd.C_below HCp.out B4.out)
  replace HM := Lib.hid (HM.out.below B4.out)
  obtain ⟨Aq, cq, rfl, hkq, hCq⟩ := Kd.R_reads R0
  have HCq := Lib.hid hCq; have HKq := Lib.hid hkq; clear hCq hkq R0
  go_wp2_with fail
  refine (HNM.out _).mono ?_
  rintro e w5 ⟨rfl, b5⟩
  have B5 := Lib.hid b5; clear b5
  replace BB := Lib.hid (below_step BB.out B5.out)
  replace HCa := Lib.hid (Kd.C_below HCa.out B5.out)
  replace HCp := Lib.hid (Kd.C_below HCp.out B5.out)
  replace HCq := Lib.hid (Kd.C_below HCq.out B5.out)
  replace HM := Lib.hid (HM.out.below B5.out)
  go_wp2_with fail
  refine (hostlerref09_Name.calls K t _ _ NM.out).mono ?_
  rintro e w6 ⟨rfl, d6⟩
  have b6 := d6.below; clear d6
  have B6 := Lib.hid b6; clear b6
  replace BB := Lib.hid (below_step BB.out B6.out)
  replace HCa := Lib.hid (Kd.C_below HCa.out B6.out)
  replace HCp := Lib.hid (Kd.C_below HCp.out B6.out)
  replace HCq := Lib.hid (Kd.C_below HCq.out B6.out)
  replace HM := Lib.hid (HM.out.below B6.out)
  go_wp2_with fail
  refine (HTX.out _ _ _ HCa.out HKa.out).mono ?_
  rintro e w7 ⟨rfl, b7⟩
  have B7 := Lib.hid b7; clear b7
  replace BB := Lib.hid (below_step BB.out B7.out)
  replace HCa := Lib.hid (Kd.C_below HCa.out B7.out)
  replace HCp := Lib.hid (Kd.C_below HCp.out B7.out)
  replace HCq := Lib.hid (Kd.C_below HCq.out B7.out)
  replace HM := Lib.hid (HM.out.below B7.out)
  go_wp2_with fail
  refine (hostlerref09_Text.calls K _ _ a _ _ HCa.out HKa.out TX.out).mono ?_
  rintro e w8 ⟨rfl, d8⟩
  have b8 := d8.below; clear d8
  have B8 := Lib.hid b8; clear b8
  replace BB := Lib.hid (below_step BB.out B8.out)
  replace HCa := Lib.hid (Kd.C_below HCa.out B8.out)
  replace HCp := Lib.hid (Kd.C_below HCp.out B8.out)
  replace HCq := Lib.hid (Kd.C_below HCq.out B8.out)
  replace HM := Lib.hid (HM.out.below B8.out)
  go_wp2_with fail
  refine (hostlerref09_Same.calls K _ _ pl _ _ pl true _ HCp.out HKp.out HCq.out HKq.out S1.out).mono ?_
  rintro e w9 ⟨rfl, d9⟩
  have b9 := d9.below; clear d9
  have B9 := Lib.hid b9; clear b9
  replace BB := Lib.hid (below_step BB.out B9.out)
  replace HCa := Lib.hid (Kd.C_below HCa.out B9.out)
  replace HCp := Lib.hid (Kd.C_below HCp.out B9.out)
  replace HCq := Lib.hid (Kd.C_below HCq.out B9.out)
  replace HM := Lib.hid (HM.out.below B9.out)
  go_wp2_with fail
  go_ret
  exact ⟨rfl, BB.out⟩
end Go.Proofs.YtnnnlbbgmdoehaaDoor.PDiffReads
