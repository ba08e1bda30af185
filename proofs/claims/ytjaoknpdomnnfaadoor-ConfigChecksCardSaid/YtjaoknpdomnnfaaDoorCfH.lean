/- ConfigChecks returns true, for every config, place and number: its walk. -/
import Derived.Test.YtjaoknpdomnnfaaDoorCrD
import Derived.Test.YtjaoknpdomnnfaaDoorCfF
namespace Go.Proofs.YtjaoknpdomnnfaaDoor.Cf
open Go.RowKit Go.Proofs.YtjaoknpdomnnfaaDoor Go.Proofs.YtjaoknpdomnnfaaDoor.Nm
attribute [local go_sem ↓ high] exec_load_row exec_store_row
attribute [local go_sem] blockOf_ptr aggOf_agg hasRow_made
set_option maxRecDepth 100000 in
set_option maxHeartbeats 8000000 in
theorem checks_neg (w : World) (c : List Int) (hc : c.length = 15) (hw : ∀ x ∈ c, (Lit.int .i64 x).wf = true) (n : Int) (v : Int) (hv : Vars w) (hn : inV n = false) (_ : n < 0) :
    Calls Tryd.prog 6 #[.agg (cfgA c), .int .i64 n, .int .i64 v] w fun e w' => e = .returned (.bool true) ∧ Below w.heap.size w w' := by
  have hfv : fieldV c n = 0 := by unfold fieldV; rw [hn]; rfl
  have hsv : setV c n v = c := by unfold setV; rw [hn]; rfl
  have hb0 := (Below.refl w.heap.size w).alloc (Nat.le_refl _) (.cells (cfgA c) 24)
  have HL := Lib.hid (lives_any _ (hv.below hb0))
  have HV := Lib.hid hv
  have HC := Lib.hid (check_any c hc)
  have HRC := Lib.hid (refcheck_any c hc)
  have HF := Lib.hid (field_any c hc n)
  have HS := Lib.hid (set_any c hc n v)
  have HLI := Lib.hid (list_any c hc)
  have HT := Lib.hid (text_any c hc hw)
  have HRT := Lib.hid (reftext_any c hc hw)
  have HN := Lib.hid (name_any n)
  have HRN := Lib.hid (refname_any n)
  rw [hfv, hn] at HF
  rw [hsv, hn] at HS
  clear hfv hsv hn
  generalize textV c = T at HT HRT
  generalize nameV n = NM at HN HRN
  obtain ⟨ck1, ck2, hck⟩ : ∃ x y, checkV c = (x, y) := ⟨_, _, rfl⟩
  rw [hck] at HC HRC
  dsimp only at HC HRC
  clear hck hb0 hv hw
  have tc1 : (ck1 != ck1) = false := by simp
  have tc2 : (ck2 != ck2) = false := by simp
  have hsc := cfg_sz hc
  have hzc : (cfgA c).size = 15 := by rw [cfgA_size, hc]
  have HZC := Lib.hid hzc
  clear hzc
  have hsd := hsc
  have HZD := Lib.hid (show (15 : Nat) = (cfgA c).size from HZC.out.symm)
  have HEQ := fun dd W => eqCfg dd W hc hc
  rw [show decide (c = c) = true from decide_eq_true rfl] at HEQ
  go_enter Tryd.func6, Tryd.ntmps6
  go_wp2_with fail
  refine HL.out.mono ?_
  rintro e w1 ⟨rfl, b1⟩
  have HK1 := Lib.hid (show Blk w1 w.heap.size 24 (cfgA c) from (b1.block _ (by simp)).trans (heap_alloc_new _ _))
  have B1 := Lib.hid (((Below.refl w.heap.size w).alloc (Nat.le_refl _) _).trans (b1.mono (by simp)))
  clear b1 HL
  go_wp2_with (first | (refine load_blk (by rfl) _ (by rfl) (by rfl) (by with_reducible exact HK1.out) _ Tryd.underlying24 rfl hsc ?_) | (refine load_blk_g (by rfl) _ (by rfl) (by rfl) (by with_reducible exact HK1.out) _ Tryd.underlying24 rfl hsc ?_))
  refine (HC.out w1).mono ?_
  rintro e w2 ⟨rfl, b2⟩
  have HK2 := Lib.hid (HK1.out.b b2)
  have B2 := Lib.hid (B1.out.trans (b2.mono B1.out.size))
  clear b2 HC HK1 B1
  go_wp2_with (first | (refine load_blk (by rfl) _ (by rfl) (by rfl) (by with_reducible exact HK2.out) _ Tryd.underlying24 rfl hsc ?_) | (refine load_blk_g (by rfl) _ (by rfl) (by rfl) (by with_reducible exact HK2.out) _ Tryd.underlying24 rfl hsc ?_))
  refine (HRC.out w2).mono ?_
  rintro e w3 ⟨rfl, b3⟩
  have HK3 := Lib.hid (HK2.out.b b3)
  have B3 := Lib.hid (B2.out.trans (b3.mono B2.out.size))
  clear b3 HRC HK2 B2
  go_wp2_with (first | (refine load_blk (by rfl) _ (by rfl) (by rfl) (by with_reducible exact HK3.out) _ Tryd.underlying24 rfl hsc ?_) | (refine load_blk_g (by rfl) _ (by rfl) (by rfl) (by with_reducible exact HK3.out) _ Tryd.underlying24 rfl hsc ?_))
  refine (HF.out w3).mono ?_
  rintro e w4 ⟨rfl, b4⟩
  have HK4 := Lib.hid (HK3.out.b b4)
  have B4 := Lib.hid (B3.out.trans (b4.mono B3.out.size))
  clear b4 HF HK3 B3
  go_wp2_with (first | (refine load_blk (by rfl) _ (by rfl) (by rfl) (by with_reducible exact HK4.out) _ Tryd.underlying24 rfl hsc ?_) | (refine load_blk_g (by rfl) _ (by rfl) (by rfl) (by with_reducible exact HK4.out) _ Tryd.underlying24 rfl hsc ?_))
  refine (HS.out w4).mono ?_
  rintro e w5 ⟨rfl, b5⟩
  have HK5 := Lib.hid (HK4.out.b b5)
  have B5 := Lib.hid (B4.out.trans (b5.mono B4.out.size))
  have hlt5 := HK5.out.lt
  clear b5 HS HK4 B4
  go_wp2_with (first | (refine store_blk (C := cfgA c) (by rfl) _ _ (by rfl) (by rfl) (by rfl) (heap_at_new _ (by simp)) HZD.out hsd (cfgA_one _) ?_; intro w6 hb6 ho6; have HD6 := Lib.hid hb6; have HK6 := Lib.hid (Blk.only (HK5.out.alloc _) ho6 (by show ¬ w.heap.size = w5.heap.size; omega)); have B6 := Lib.hid (only_below (B5.out.alloc B5.out.size _) ho6 B5.out.size); clear hb6 ho6) | (refine load_blk (by rfl) _ (by rfl) (by rfl) (by with_reducible exact HK6.out) _ Tryd.underlying24 rfl hsc ?_) | (refine load_blk_g (by rfl) _ (by rfl) (by rfl) (by with_reducible exact HK6.out) _ Tryd.underlying24 rfl hsc ?_))
  refine (HLI.out w6).mono ?_
  rintro e w7 ⟨lv, rfl, ⟨g, cc, rfl, hcc, hg, hlb⟩, b7⟩
  have HK7 := Lib.hid (HK6.out.b b7)
  have HD7 := Lib.hid (HD6.out.b b7)
  have HG7 := Lib.hid hlb
  have B7 := Lib.hid (B6.out.trans (b7.mono B6.out.size))
  have hqg : w5.heap.size < g := by have := HD6.out.lt; omega
  clear b7 hlb HLI HK6 HD6 B6 HK5 B5
  generalize w5.heap.size = q at HD7 hlt5 hqg ⊢
  have HKR : Hid (∀ W, Below w7.heap.size w7 W → hasRow W w.heap.size 15 ∧ rowOf W w.heap.size = cfgA c) := Lib.hid fun W hW => ⟨⟨_, HK7.out.b hW, HZC.out⟩, rowOf_blk (HK7.out.b hW)⟩
  have HVW : Hid (∀ W, Below w7.heap.size w7 W → Vars W) := Lib.hid fun W hW => HV.out.below (B7.out.trans (hW.mono B7.out.size))
  have HB := Lib.hid (Below.refl w7.heap.size w7)
  go_wp2_with fail
  go_region_held3 (fun W => hasRow W w.heap.size 15 ∧ rowOf W w.heap.size = cfgA c) ((refine HKR.out _ ?_; (repeat (first | with_reducible assumption | with_reducible exact HB.out | with_reducible exact Below.refl _ _ | with_reducible refine Below.drew ?_ | with_reducible refine below_drewN ?_ _ | with_reducible refine Below.alloc ?_ (by first | exact Nat.le_refl _ | assumption | omega | (simp; omega)) _ | with_reducible refine below_storeRow ?_ (by (rw [hzc]; first | with_reducible assumption | exact hasRow_new _ _ rfl)) (by first | exact Nat.le_refl _ | assumption)))))
    (first | (go_at_call 18; refine (HT.out _ (HVW.out _ (by (repeat (first | with_reducible assumption | with_reducible exact HB.out | with_reducible exact Below.refl _ _ | with_reducible refine Below.drew ?_ | with_reducible refine below_drewN ?_ _ | with_reducible refine Below.alloc ?_ (by first | exact Nat.le_refl _ | assumption | omega | (simp; omega)) _ | with_reducible refine below_storeRow ?_ (by (rw [hzc]; first | with_reducible assumption | exact hasRow_new _ _ rfl)) (by first | exact Nat.le_refl _ | assumption)))))).mono ?_; rintro e wj ⟨rfl, hbj⟩; replace HB := Lib.hid (chain (w0 := w7) (by (repeat (first | with_reducible assumption | with_reducible exact HB.out | with_reducible exact Below.refl _ _ | with_reducible refine Below.drew ?_ | with_reducible refine below_drewN ?_ _ | with_reducible refine Below.alloc ?_ (by first | exact Nat.le_refl _ | assumption | omega | (simp; omega)) _ | with_reducible refine below_storeRow ?_ (by (rw [hzc]; first | with_reducible assumption | exact hasRow_new _ _ rfl)) (by first | exact Nat.le_refl _ | assumption)))) hbj); clear hbj) | (go_at_call 24; refine (HRT.out _).mono ?_; rintro e wj ⟨rfl, hbj⟩; replace HB := Lib.hid (chain (w0 := w7) (by (repeat (first | with_reducible assumption | with_reducible exact HB.out | with_reducible exact Below.refl _ _ | with_reducible refine Below.drew ?_ | with_reducible refine below_drewN ?_ _ | with_reducible refine Below.alloc ?_ (by first | exact Nat.le_refl _ | assumption | omega | (simp; omega)) _ | with_reducible refine below_storeRow ?_ (by (rw [hzc]; first | with_reducible assumption | exact hasRow_new _ _ rfl)) (by first | exact Nat.le_refl _ | assumption)))) hbj); clear hbj) | (go_at_call 25; refine (HN.out _).mono ?_; rintro e wj ⟨rfl, hbj⟩; replace HB := Lib.hid (chain (w0 := w7) (by (repeat (first | with_reducible assumption | with_reducible exact HB.out | with_reducible exact Below.refl _ _ | with_reducible refine Below.drew ?_ | with_reducible refine below_drewN ?_ _ | with_reducible refine Below.alloc ?_ (by first | exact Nat.le_refl _ | assumption | omega | (simp; omega)) _ | with_reducible refine below_storeRow ?_ (by (rw [hzc]; first | with_reducible assumption | exact hasRow_new _ _ rfl)) (by first | exact Nat.le_refl _ | assumption)))) hbj); clear hbj) | (go_at_call 26; refine (HRN.out _).mono ?_; rintro e w8 ⟨rfl, hbj⟩; replace HB := Lib.hid (chain (w0 := w7) (by (repeat (first | with_reducible assumption | with_reducible exact HB.out | with_reducible exact Below.refl _ _ | with_reducible refine Below.drew ?_ | with_reducible refine below_drewN ?_ _ | with_reducible refine Below.alloc ?_ (by first | exact Nat.le_refl _ | assumption | omega | (simp; omega)) _ | with_reducible refine below_storeRow ?_ (by (rw [hzc]; first | with_reducible assumption | exact hasRow_new _ _ rfl)) (by first | exact Nat.le_refl _ | assumption)))) hbj); clear hbj))
  rename_i hh
  clear hh

  have HD8 := Lib.hid (HD7.out.b HB.out)
  have HK8 := Lib.hid (HK7.out.b HB.out)
  have r1 : hasRow w8 q 15 := ⟨_, HD8.out, HZC.out⟩
  have r2 : rowOf w8 q = cfgA c := rowOf_blk HD8.out
  have r3 : hasRow w8 w.heap.size 15 := ⟨_, HK8.out, HZC.out⟩
  have r4 : rowOf w8 w.heap.size = cfgA c := rowOf_blk HK8.out
  go_wp2_with (first | (refine load_blk (by rfl) _ (by rfl) (by rfl) (by with_reducible exact HD8.out) _ Tryd.underlying24 rfl hsd ?_) | (refine load_blk_g (by rfl) _ (by rfl) (by rfl) (by with_reducible exact HD8.out) _ Tryd.underlying24 rfl hsd ?_) | (refine load_blk (by rfl) _ (by rfl) (by rfl) (by with_reducible exact HK8.out) _ Tryd.underlying24 rfl hsc ?_) | (refine load_blk_g (by rfl) _ (by rfl) (by rfl) (by with_reducible exact HK8.out) _ Tryd.underlying24 rfl hsc ?_))
  go_ret
  exact ⟨rfl, B7.out.trans (HB.out.mono B7.out.size)⟩
set_option maxRecDepth 100000 in
set_option maxHeartbeats 8000000 in
theorem checks_big (w : World) (c : List Int) (hc : c.length = 15) (hw : ∀ x ∈ c, (Lit.int .i64 x).wf = true) (n : Int) (v : Int) (hv : Vars w) (hn : inV n = false) (h0n : 0 ≤ n) (h15n : 15 ≤ n) :
    Calls Tryd.prog 6 #[.agg (cfgA c), .int .i64 n, .int .i64 v] w fun e w' => e = .returned (.bool true) ∧ Below w.heap.size w w' := by
  have hfv : fieldV c n = 0 := by unfold fieldV; rw [hn]; rfl
  have hsv : setV c n v = c := by unfold setV; rw [hn]; rfl
  have hb0 := (Below.refl w.heap.size w).alloc (Nat.le_refl _) (.cells (cfgA c) 24)
  have HL := Lib.hid (lives_any _ (hv.below hb0))
  have HV := Lib.hid hv
  have HC := Lib.hid (check_any c hc)
  have HRC := Lib.hid (refcheck_any c hc)
  have HF := Lib.hid (field_any c hc n)
  have HS := Lib.hid (set_any c hc n v)
  have HLI := Lib.hid (list_any c hc)
  have HT := Lib.hid (text_any c hc hw)
  have HRT := Lib.hid (reftext_any c hc hw)
  have HN := Lib.hid (name_any n)
  have HRN := Lib.hid (refname_any n)
  rw [hfv, hn] at HF
  rw [hsv, hn] at HS
  clear hfv hsv hn
  generalize textV c = T at HT HRT
  generalize nameV n = NM at HN HRN
  obtain ⟨ck1, ck2, hck⟩ : ∃ x y, checkV c = (x, y) := ⟨_, _, rfl⟩
  rw [hck] at HC HRC
  dsimp only at HC HRC
  clear hck hb0 hv hw
  have tc1 : (ck1 != ck1) = false := by simp
  have tc2 : (ck2 != ck2) = false := by simp
  have hsc := cfg_sz hc
  have hzc : (cfgA c).size = 15 := by rw [cfgA_size, hc]
  have HZC := Lib.hid hzc
  clear hzc
  have hsd := hsc
  have HZD := Lib.hid (show (15 : Nat) = (cfgA c).size from HZC.out.symm)
  have HEQ := fun dd W => eqCfg dd W hc hc
  rw [show decide (c = c) = true from decide_eq_true rfl] at HEQ
  go_enter Tryd.func6, Tryd.ntmps6
  go_wp2_with fail
  refine HL.out.mono ?_
  rintro e w1 ⟨rfl, b1⟩
  have HK1 := Lib.hid (show Blk w1 w.heap.size 24 (cfgA c) from (b1.block _ (by simp)).trans (heap_alloc_new _ _))
  have B1 := Lib.hid (((Below.refl w.heap.size w).alloc (Nat.le_refl _) _).trans (b1.mono (by simp)))
  clear b1 HL
  go_wp2_with (first | (refine load_blk (by rfl) _ (by rfl) (by rfl) (by with_reducible exact HK1.out) _ Tryd.underlying24 rfl hsc ?_) | (refine load_blk_g (by rfl) _ (by rfl) (by rfl) (by with_reducible exact HK1.out) _ Tryd.underlying24 rfl hsc ?_))
  refine (HC.out w1).mono ?_
  rintro e w2 ⟨rfl, b2⟩
  have HK2 := Lib.hid (HK1.out.b b2)
  have B2 := Lib.hid (B1.out.trans (b2.mono B1.out.size))
  clear b2 HC HK1 B1
  go_wp2_with (first | (refine load_blk (by rfl) _ (by rfl) (by rfl) (by with_reducible exact HK2.out) _ Tryd.underlying24 rfl hsc ?_) | (refine load_blk_g (by rfl) _ (by rfl) (by rfl) (by with_reducible exact HK2.out) _ Tryd.underlying24 rfl hsc ?_))
  refine (HRC.out w2).mono ?_
  rintro e w3 ⟨rfl, b3⟩
  have HK3 := Lib.hid (HK2.out.b b3)
  have B3 := Lib.hid (B2.out.trans (b3.mono B2.out.size))
  clear b3 HRC HK2 B2
  go_wp2_with (first | (refine load_blk (by rfl) _ (by rfl) (by rfl) (by with_reducible exact HK3.out) _ Tryd.underlying24 rfl hsc ?_) | (refine load_blk_g (by rfl) _ (by rfl) (by rfl) (by with_reducible exact HK3.out) _ Tryd.underlying24 rfl hsc ?_))
  refine (HF.out w3).mono ?_
  rintro e w4 ⟨rfl, b4⟩
  have HK4 := Lib.hid (HK3.out.b b4)
  have B4 := Lib.hid (B3.out.trans (b4.mono B3.out.size))
  clear b4 HF HK3 B3
  go_wp2_with (first | (refine load_blk (by rfl) _ (by rfl) (by rfl) (by with_reducible exact HK4.out) _ Tryd.underlying24 rfl hsc ?_) | (refine load_blk_g (by rfl) _ (by rfl) (by rfl) (by with_reducible exact HK4.out) _ Tryd.underlying24 rfl hsc ?_))
  refine (HS.out w4).mono ?_
  rintro e w5 ⟨rfl, b5⟩
  have HK5 := Lib.hid (HK4.out.b b5)
  have B5 := Lib.hid (B4.out.trans (b5.mono B4.out.size))
  have hlt5 := HK5.out.lt
  clear b5 HS HK4 B4
  go_wp2_with (first | (refine store_blk (C := cfgA c) (by rfl) _ _ (by rfl) (by rfl) (by rfl) (heap_at_new _ (by simp)) HZD.out hsd (cfgA_one _) ?_; intro w6 hb6 ho6; have HD6 := Lib.hid hb6; have HK6 := Lib.hid (Blk.only (HK5.out.alloc _) ho6 (by show ¬ w.heap.size = w5.heap.size; omega)); have B6 := Lib.hid (only_below (B5.out.alloc B5.out.size _) ho6 B5.out.size); clear hb6 ho6) | (refine load_blk (by rfl) _ (by rfl) (by rfl) (by with_reducible exact HK6.out) _ Tryd.underlying24 rfl hsc ?_) | (refine load_blk_g (by rfl) _ (by rfl) (by rfl) (by with_reducible exact HK6.out) _ Tryd.underlying24 rfl hsc ?_))
  refine (HLI.out w6).mono ?_
  rintro e w7 ⟨lv, rfl, ⟨g, cc, rfl, hcc, hg, hlb⟩, b7⟩
  have HK7 := Lib.hid (HK6.out.b b7)
  have HD7 := Lib.hid (HD6.out.b b7)
  have HG7 := Lib.hid hlb
  have B7 := Lib.hid (B6.out.trans (b7.mono B6.out.size))
  have hqg : w5.heap.size < g := by have := HD6.out.lt; omega
  clear b7 hlb HLI HK6 HD6 B6 HK5 B5
  generalize w5.heap.size = q at HD7 hlt5 hqg ⊢
  have HKR : Hid (∀ W, Below w7.heap.size w7 W → hasRow W w.heap.size 15 ∧ rowOf W w.heap.size = cfgA c) := Lib.hid fun W hW => ⟨⟨_, HK7.out.b hW, HZC.out⟩, rowOf_blk (HK7.out.b hW)⟩
  have HVW : Hid (∀ W, Below w7.heap.size w7 W → Vars W) := Lib.hid fun W hW => HV.out.below (B7.out.trans (hW.mono B7.out.size))
  have HB := Lib.hid (Below.refl w7.heap.size w7)
  go_wp2_with fail
  rw [show decide (n < 15) = false from decide_eq_false (by omega)]
  go_region_held3 (fun W => hasRow W w.heap.size 15 ∧ rowOf W w.heap.size = cfgA c) ((refine HKR.out _ ?_; (repeat (first | with_reducible assumption | with_reducible exact HB.out | with_reducible exact Below.refl _ _ | with_reducible refine Below.drew ?_ | with_reducible refine below_drewN ?_ _ | with_reducible refine Below.alloc ?_ (by first | exact Nat.le_refl _ | assumption | omega | (simp; omega)) _ | with_reducible refine below_storeRow ?_ (by (rw [hzc]; first | with_reducible assumption | exact hasRow_new _ _ rfl)) (by first | exact Nat.le_refl _ | assumption)))))
    (first | (go_at_call 18; refine (HT.out _ (HVW.out _ (by (repeat (first | with_reducible assumption | with_reducible exact HB.out | with_reducible exact Below.refl _ _ | with_reducible refine Below.drew ?_ | with_reducible refine below_drewN ?_ _ | with_reducible refine Below.alloc ?_ (by first | exact Nat.le_refl _ | assumption | omega | (simp; omega)) _ | with_reducible refine below_storeRow ?_ (by (rw [hzc]; first | with_reducible assumption | exact hasRow_new _ _ rfl)) (by first | exact Nat.le_refl _ | assumption)))))).mono ?_; rintro e wj ⟨rfl, hbj⟩; replace HB := Lib.hid (chain (w0 := w7) (by (repeat (first | with_reducible assumption | with_reducible exact HB.out | with_reducible exact Below.refl _ _ | with_reducible refine Below.drew ?_ | with_reducible refine below_drewN ?_ _ | with_reducible refine Below.alloc ?_ (by first | exact Nat.le_refl _ | assumption | omega | (simp; omega)) _ | with_reducible refine below_storeRow ?_ (by (rw [hzc]; first | with_reducible assumption | exact hasRow_new _ _ rfl)) (by first | exact Nat.le_refl _ | assumption)))) hbj); clear hbj) | (go_at_call 24; refine (HRT.out _).mono ?_; rintro e wj ⟨rfl, hbj⟩; replace HB := Lib.hid (chain (w0 := w7) (by (repeat (first | with_reducible assumption | with_reducible exact HB.out | with_reducible exact Below.refl _ _ | with_reducible refine Below.drew ?_ | with_reducible refine below_drewN ?_ _ | with_reducible refine Below.alloc ?_ (by first | exact Nat.le_refl _ | assumption | omega | (simp; omega)) _ | with_reducible refine below_storeRow ?_ (by (rw [hzc]; first | with_reducible assumption | exact hasRow_new _ _ rfl)) (by first | exact Nat.le_refl _ | assumption)))) hbj); clear hbj) | (go_at_call 25; refine (HN.out _).mono ?_; rintro e wj ⟨rfl, hbj⟩; replace HB := Lib.hid (chain (w0 := w7) (by (repeat (first | with_reducible assumption | with_reducible exact HB.out | with_reducible exact Below.refl _ _ | with_reducible refine Below.drew ?_ | with_reducible refine below_drewN ?_ _ | with_reducible refine Below.alloc ?_ (by first | exact Nat.le_refl _ | assumption | omega | (simp; omega)) _ | with_reducible refine below_storeRow ?_ (by (rw [hzc]; first | with_reducible assumption | exact hasRow_new _ _ rfl)) (by first | exact Nat.le_refl _ | assumption)))) hbj); clear hbj) | (go_at_call 26; refine (HRN.out _).mono ?_; rintro e w8 ⟨rfl, hbj⟩; replace HB := Lib.hid (chain (w0 := w7) (by (repeat (first | with_reducible assumption | with_reducible exact HB.out | with_reducible exact Below.refl _ _ | with_reducible refine Below.drew ?_ | with_reducible refine below_drewN ?_ _ | with_reducible refine Below.alloc ?_ (by first | exact Nat.le_refl _ | assumption | omega | (simp; omega)) _ | with_reducible refine below_storeRow ?_ (by (rw [hzc]; first | with_reducible assumption | exact hasRow_new _ _ rfl)) (by first | exact Nat.le_refl _ | assumption)))) hbj); clear hbj))
  rename_i hh
  clear hh

  have HD8 := Lib.hid (HD7.out.b HB.out)
  have HK8 := Lib.hid (HK7.out.b HB.out)
  have r1 : hasRow w8 q 15 := ⟨_, HD8.out, HZC.out⟩
  have r2 : rowOf w8 q = cfgA c := rowOf_blk HD8.out
  have r3 : hasRow w8 w.heap.size 15 := ⟨_, HK8.out, HZC.out⟩
  have r4 : rowOf w8 w.heap.size = cfgA c := rowOf_blk HK8.out
  go_wp2_with (first | (refine load_blk (by rfl) _ (by rfl) (by rfl) (by with_reducible exact HD8.out) _ Tryd.underlying24 rfl hsd ?_) | (refine load_blk_g (by rfl) _ (by rfl) (by rfl) (by with_reducible exact HD8.out) _ Tryd.underlying24 rfl hsd ?_) | (refine load_blk (by rfl) _ (by rfl) (by rfl) (by with_reducible exact HK8.out) _ Tryd.underlying24 rfl hsc ?_) | (refine load_blk_g (by rfl) _ (by rfl) (by rfl) (by with_reducible exact HK8.out) _ Tryd.underlying24 rfl hsc ?_))
  go_ret
  exact ⟨rfl, B7.out.trans (HB.out.mono B7.out.size)⟩
set_option maxRecDepth 100000 in
set_option maxHeartbeats 8000000 in
theorem checks_in (w : World) (c : List Int) (hc : c.length = 15) (hw : ∀ x ∈ c, (Lit.int .i64 x).wf = true) (k : Nat) (hk : k < 15) (v : Int) (hv : Vars w) :
    Calls Tryd.prog 6 #[.agg (cfgA c), .int .i64 (k : Int), .int .i64 v] w fun e w' => e = .returned (.bool true) ∧ Below w.heap.size w w' := by
  have hn := inV_nat hk
  have hfv : fieldV c (k : Int) = fld c k := by unfold fieldV; rw [hn]; rfl
  have HX := Lib.hid (cfgA_at (fld_at hc hk))
  generalize fld c k = X at hfv HX
  obtain ⟨d, hd⟩ : ∃ d, c.set k v = d := ⟨_, rfl⟩
  have hsv : setV c (k : Int) v = d := by unfold setV; rw [hn, ← hd]; rfl
  have hdl : d.length = 15 := by rw [← hd, List.length_set]; exact hc
  have HD0 := Lib.hid hd
  clear hd
  have hb0 := (Below.refl w.heap.size w).alloc (Nat.le_refl _) (.cells (cfgA c) 24)
  have HL := Lib.hid (lives_any _ (hv.below hb0))
  have HV := Lib.hid hv
  have HC := Lib.hid (check_any c hc)
  have HRC := Lib.hid (refcheck_any c hc)
  have HF := Lib.hid (field_any c hc (k : Int))
  have HS := Lib.hid (set_any c hc (k : Int) v)
  have HLI := Lib.hid (list_any c hc)
  have HT := Lib.hid (text_any c hc hw)
  have HRT := Lib.hid (reftext_any c hc hw)
  have HN := Lib.hid (name_any (k : Int))
  have HRN := Lib.hid (refname_any (k : Int))
  rw [hfv, hn] at HF
  rw [hsv, hn] at HS
  clear hfv hsv hn
  generalize textV c = T at HT HRT
  generalize nameV (k : Int) = NM at HN HRN
  obtain ⟨ck1, ck2, hck⟩ : ∃ x y, checkV c = (x, y) := ⟨_, _, rfl⟩
  rw [hck] at HC HRC
  dsimp only at HC HRC
  clear hck hb0 hv hw
  have tc1 : (ck1 != ck1) = false := by simp
  have tc2 : (ck2 != ck2) = false := by simp
  have hsc := cfg_sz hc
  have hzc : (cfgA c).size = 15 := by rw [cfgA_size, hc]
  have HZC := Lib.hid hzc
  clear hzc
  have hsd := cfg_sz hdl
  have HZD := Lib.hid (show (15 : Nat) = (cfgA d).size by rw [cfgA_size, hdl])
  have HEQ := fun dd W => eqCfg dd W hdl hdl
  rw [show decide (d = d) = true from decide_eq_true rfl] at HEQ
  have tk : (X == X) = true := beq_self_eq_true X
  go_enter Tryd.func6, Tryd.ntmps6
  go_wp2_with fail
  refine HL.out.mono ?_
  rintro e w1 ⟨rfl, b1⟩
  have HK1 := Lib.hid (show Blk w1 w.heap.size 24 (cfgA c) from (b1.block _ (by simp)).trans (heap_alloc_new _ _))
  have B1 := Lib.hid (((Below.refl w.heap.size w).alloc (Nat.le_refl _) _).trans (b1.mono (by simp)))
  clear b1 HL
  go_wp2_with (first | (refine load_blk (by rfl) _ (by rfl) (by rfl) (by with_reducible exact HK1.out) _ Tryd.underlying24 rfl hsc ?_) | (refine load_blk_g (by rfl) _ (by rfl) (by rfl) (by with_reducible exact HK1.out) _ Tryd.underlying24 rfl hsc ?_))
  refine (HC.out w1).mono ?_
  rintro e w2 ⟨rfl, b2⟩
  have HK2 := Lib.hid (HK1.out.b b2)
  have B2 := Lib.hid (B1.out.trans (b2.mono B1.out.size))
  clear b2 HC HK1 B1
  go_wp2_with (first | (refine load_blk (by rfl) _ (by rfl) (by rfl) (by with_reducible exact HK2.out) _ Tryd.underlying24 rfl hsc ?_) | (refine load_blk_g (by rfl) _ (by rfl) (by rfl) (by with_reducible exact HK2.out) _ Tryd.underlying24 rfl hsc ?_))
  refine (HRC.out w2).mono ?_
  rintro e w3 ⟨rfl, b3⟩
  have HK3 := Lib.hid (HK2.out.b b3)
  have B3 := Lib.hid (B2.out.trans (b3.mono B2.out.size))
  clear b3 HRC HK2 B2
  go_wp2_with (first | (refine load_blk (by rfl) _ (by rfl) (by rfl) (by with_reducible exact HK3.out) _ Tryd.underlying24 rfl hsc ?_) | (refine load_blk_g (by rfl) _ (by rfl) (by rfl) (by with_reducible exact HK3.out) _ Tryd.underlying24 rfl hsc ?_))
  refine (HF.out w3).mono ?_
  rintro e w4 ⟨rfl, b4⟩
  have HK4 := Lib.hid (HK3.out.b b4)
  have B4 := Lib.hid (B3.out.trans (b4.mono B3.out.size))
  clear b4 HF HK3 B3
  go_wp2_with (first | (refine load_blk (by rfl) _ (by rfl) (by rfl) (by with_reducible exact HK4.out) _ Tryd.underlying24 rfl hsc ?_) | (refine load_blk_g (by rfl) _ (by rfl) (by rfl) (by with_reducible exact HK4.out) _ Tryd.underlying24 rfl hsc ?_))
  refine (HS.out w4).mono ?_
  rintro e w5 ⟨rfl, b5⟩
  have HK5 := Lib.hid (HK4.out.b b5)
  have B5 := Lib.hid (B4.out.trans (b5.mono B4.out.size))
  have hlt5 := HK5.out.lt
  clear b5 HS HK4 B4
  go_wp2_with (first | (refine store_blk (C := cfgA d) (by rfl) _ _ (by rfl) (by rfl) (by rfl) (heap_at_new _ (by simp)) HZD.out hsd (cfgA_one _) ?_; intro w6 hb6 ho6; have HD6 := Lib.hid hb6; have HK6 := Lib.hid (Blk.only (HK5.out.alloc _) ho6 (by show ¬ w.heap.size = w5.heap.size; omega)); have B6 := Lib.hid (only_below (B5.out.alloc B5.out.size _) ho6 B5.out.size); clear hb6 ho6) | (refine load_blk (by rfl) _ (by rfl) (by rfl) (by with_reducible exact HK6.out) _ Tryd.underlying24 rfl hsc ?_) | (refine load_blk_g (by rfl) _ (by rfl) (by rfl) (by with_reducible exact HK6.out) _ Tryd.underlying24 rfl hsc ?_))
  refine (HLI.out w6).mono ?_
  rintro e w7 ⟨lv, rfl, ⟨g, cc, rfl, hcc, hg, hlb⟩, b7⟩
  have HK7 := Lib.hid (HK6.out.b b7)
  have HD7 := Lib.hid (HD6.out.b b7)
  have HG7 := Lib.hid hlb
  have B7 := Lib.hid (B6.out.trans (b7.mono B6.out.size))
  have hqg : w5.heap.size < g := by have := HD6.out.lt; omega
  clear b7 hlb HLI HK6 HD6 B6 HK5 B5
  generalize w5.heap.size = q at HD7 hlt5 hqg ⊢
  have HKR : Hid (∀ W, Below w7.heap.size w7 W → hasRow W w.heap.size 15 ∧ rowOf W w.heap.size = cfgA c) := Lib.hid fun W hW => ⟨⟨_, HK7.out.b hW, HZC.out⟩, rowOf_blk (HK7.out.b hW)⟩
  have HVW : Hid (∀ W, Below w7.heap.size w7 W → Vars W) := Lib.hid fun W hW => HV.out.below (B7.out.trans (hW.mono B7.out.size))
  have HB := Lib.hid (Below.refl w7.heap.size w7)
  go_wp2_with fail
  rw [show decide ((k : Int) < 15) = true from decide_eq_true (by omega)]
  go_region_held3 (fun W => hasRow W w.heap.size 15 ∧ rowOf W w.heap.size = cfgA c) ((refine HKR.out _ ?_; (repeat (first | with_reducible assumption | with_reducible exact HB.out | with_reducible exact Below.refl _ _ | with_reducible refine Below.drew ?_ | with_reducible refine below_drewN ?_ _ | with_reducible refine Below.alloc ?_ (by first | exact Nat.le_refl _ | assumption | omega | (simp; omega)) _ | with_reducible refine below_storeRow ?_ (by (rw [hzc]; first | with_reducible assumption | exact hasRow_new _ _ rfl)) (by first | exact Nat.le_refl _ | assumption)))))
    (first | (go_at_call 18; refine (HT.out _ (HVW.out _ (by (repeat (first | with_reducible assumption | with_reducible exact HB.out | with_reducible exact Below.refl _ _ | with_reducible refine Below.drew ?_ | with_reducible refine below_drewN ?_ _ | with_reducible refine Below.alloc ?_ (by first | exact Nat.le_refl _ | assumption | omega | (simp; omega)) _ | with_reducible refine below_storeRow ?_ (by (rw [hzc]; first | with_reducible assumption | exact hasRow_new _ _ rfl)) (by first | exact Nat.le_refl _ | assumption)))))).mono ?_; rintro e wj ⟨rfl, hbj⟩; replace HB := Lib.hid (chain (w0 := w7) (by (repeat (first | with_reducible assumption | with_reducible exact HB.out | with_reducible exact Below.refl _ _ | with_reducible refine Below.drew ?_ | with_reducible refine below_drewN ?_ _ | with_reducible refine Below.alloc ?_ (by first | exact Nat.le_refl _ | assumption | omega | (simp; omega)) _ | with_reducible refine below_storeRow ?_ (by (rw [hzc]; first | with_reducible assumption | exact hasRow_new _ _ rfl)) (by first | exact Nat.le_refl _ | assumption)))) hbj); clear hbj) | (go_at_call 24; refine (HRT.out _).mono ?_; rintro e wj ⟨rfl, hbj⟩; replace HB := Lib.hid (chain (w0 := w7) (by (repeat (first | with_reducible assumption | with_reducible exact HB.out | with_reducible exact Below.refl _ _ | with_reducible refine Below.drew ?_ | with_reducible refine below_drewN ?_ _ | with_reducible refine Below.alloc ?_ (by first | exact Nat.le_refl _ | assumption | omega | (simp; omega)) _ | with_reducible refine below_storeRow ?_ (by (rw [hzc]; first | with_reducible assumption | exact hasRow_new _ _ rfl)) (by first | exact Nat.le_refl _ | assumption)))) hbj); clear hbj) | (go_at_call 25; refine (HN.out _).mono ?_; rintro e wj ⟨rfl, hbj⟩; replace HB := Lib.hid (chain (w0 := w7) (by (repeat (first | with_reducible assumption | with_reducible exact HB.out | with_reducible exact Below.refl _ _ | with_reducible refine Below.drew ?_ | with_reducible refine below_drewN ?_ _ | with_reducible refine Below.alloc ?_ (by first | exact Nat.le_refl _ | assumption | omega | (simp; omega)) _ | with_reducible refine below_storeRow ?_ (by (rw [hzc]; first | with_reducible assumption | exact hasRow_new _ _ rfl)) (by first | exact Nat.le_refl _ | assumption)))) hbj); clear hbj) | (go_at_call 26; refine (HRN.out _).mono ?_; rintro e w8 ⟨rfl, hbj⟩; replace HB := Lib.hid (chain (w0 := w7) (by (repeat (first | with_reducible assumption | with_reducible exact HB.out | with_reducible exact Below.refl _ _ | with_reducible refine Below.drew ?_ | with_reducible refine below_drewN ?_ _ | with_reducible refine Below.alloc ?_ (by first | exact Nat.le_refl _ | assumption | omega | (simp; omega)) _ | with_reducible refine below_storeRow ?_ (by (rw [hzc]; first | with_reducible assumption | exact hasRow_new _ _ rfl)) (by first | exact Nat.le_refl _ | assumption)))) hbj); clear hbj))
  rename_i hh
  clear hh
  have HD8 := Lib.hid (HD7.out.b HB.out)
  have HG8 := Lib.hid (HG7.out.b HB.out)
  have B8 := Lib.hid (B7.out.trans (HB.out.mono B7.out.size))
  have e1 : w8.cell? ⟨g, k, none⟩ = some (.int .i64 X) := by rw [HG8.out.cell k]; exact HX.out
  have e2 := HG8.out.frozen k
  have e3 := HG8.out.lt
  have hk1 : (k : Int) < 15 := by omega
  clear HVW HKR HB HV HT HRT HN HRN
  go_wp2_with fail
  have HG9 := Lib.hid (HG8.out.set_ k (.int .i64 v))
  rw [cfgA_set] at HG9
  obtain ⟨w9, h9⟩ : ∃ w9, w8.setCell ⟨g, k, none⟩ (.int .i64 v) = w9 := ⟨_, rfl⟩
  rw [HD0.out, h9] at HG9
  rw [h9]
  have HD9 := Lib.hid (show Blk w9 q 24 (cfgA d) from h9 ▸ HD8.out.far (by show q ≠ g; omega) _)
  have B9 := Lib.hid (show Below w.heap.size w w9 from h9 ▸ B8.out.setCell (by show w.heap.size ≤ g; omega) _)
  clear h9 e1 e2 e3
  have HOF : Hid (∀ W, Below w9.heap.size w9 W → Calls Tryd.prog 27 #[.slice (some ⟨g, 0, none⟩) 15 cc] W fun e w' => e = .returned (.agg (cfgA d)) ∧ Below W.heap.size W w') := Lib.hid fun W hW => of_any d hdl g 0 cc W fun j x hj => by rw [Nat.zero_add, (HG9.out.b hW).cell j]; exact cfgA_at hj
  have HKR : Hid (∀ W, Below w9.heap.size w9 W → hasRow W q 15 ∧ rowOf W q = cfgA d) := Lib.hid fun W hW => ⟨⟨_, HD9.out.b hW, HZD.out.symm⟩, rowOf_blk (HD9.out.b hW)⟩
  have HB := Lib.hid (Below.refl w9.heap.size w9)
  go_region_held3 (fun W => hasRow W q 15 ∧ rowOf W q = cfgA d) ((refine HKR.out _ ?_; (repeat (first | with_reducible assumption | with_reducible exact HB.out | with_reducible exact Below.refl _ _ | with_reducible refine Below.drew ?_ | with_reducible refine below_drewN ?_ _ | with_reducible refine Below.alloc ?_ (by first | exact Nat.le_refl _ | assumption | omega | (simp; omega)) _ | with_reducible refine below_storeRow ?_ (by (rw [hzc]; first | with_reducible assumption | exact hasRow_new _ _ rfl)) (by first | exact Nat.le_refl _ | assumption))))) (first | (go_at_call 27; refine (HOF.out _ (by (repeat (first | with_reducible assumption | with_reducible exact HB.out | with_reducible exact Below.refl _ _ | with_reducible refine Below.drew ?_ | with_reducible refine below_drewN ?_ _ | with_reducible refine Below.alloc ?_ (by first | exact Nat.le_refl _ | assumption | omega | (simp; omega)) _ | with_reducible refine below_storeRow ?_ (by (rw [hzc]; first | with_reducible assumption | exact hasRow_new _ _ rfl)) (by first | exact Nat.le_refl _ | assumption))))).mono ?_; rintro e wj ⟨rfl, hbj⟩; replace HB := Lib.hid (chain (w0 := w9) (by (repeat (first | with_reducible assumption | with_reducible exact HB.out | with_reducible exact Below.refl _ _ | with_reducible refine Below.drew ?_ | with_reducible refine below_drewN ?_ _ | with_reducible refine Below.alloc ?_ (by first | exact Nat.le_refl _ | assumption | omega | (simp; omega)) _ | with_reducible refine below_storeRow ?_ (by (rw [hzc]; first | with_reducible assumption | exact hasRow_new _ _ rfl)) (by first | exact Nat.le_refl _ | assumption)))) hbj); clear hbj))
  all_goals
    rename_i hh
    clear hh
    go_wp2_with fail
    go_ret
    exact ⟨rfl, B9.out.trans (HB.out.mono B9.out.size)⟩
theorem walk_ConfigChecks (w : World) (c : List Int) (hc : c.length = 15) (hw : ∀ x ∈ c, (Lit.int .i64 x).wf = true) (n : Int) (_ : (Lit.int .i64 n).wf = true) (v : Int) (_ : (Lit.int .i64 v).wf = true) (hv : Vars w) :
    Calls Tryd.prog 6 #[.agg (cfgA c), .int .i64 n, .int .i64 v] w fun e w' => e = .returned (.bool true) ∧ Below w.heap.size w w' := by
  cases hn : inV n with
  | true =>
    obtain ⟨k, hk, rfl⟩ := inV_yes hn
    exact checks_in w c hc hw k hk v hv
  | false =>
    rcases inV_no hn with h | ⟨h, h2⟩
    · exact checks_neg w c hc hw n v hv hn h
    · exact checks_big w c hc hw n v hv hn h h2
end Go.Proofs.YtjaoknpdomnnfaaDoor.Cf
