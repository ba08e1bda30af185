/- ConfigBack returns true, for every config and every text: its walk. -/
import Derived.Test.YtjaoknpdomnnfaaDoorCfL
namespace Go.Proofs.YtjaoknpdomnnfaaDoor.Cf
open Go.RowKit Go.Proofs.YtjaoknpdomnnfaaDoor Go.Proofs.YtjaoknpdomnnfaaDoor.Nm
open Builtin in
theorem min_is (ats : Array TypeId) (ty : TypeId) (x y : Int) (W : World) : (Builtin.min_ ats ty #[.int .i64 x, .int .i64 y]).run Tryd.prog W = .ok (.int .i64 (if y < x then y else x)) W := by
  simp only [Builtin.min_, List.foldlM_cons, List.foldlM_nil, Builtin.min2]
  rfl
theorem cut_facts (k : Nat) (s : ByteArray) : ∃ (m : Int) (t : ByteArray), (∀ W ats ty, (Builtin.min_ ats ty #[.int .i64 (s.size : Int), .int .i64 (k : Int)]).run Tryd.prog W = .ok (.int .i64 m) W) ∧ (∀ W, (Instr.slice 9 (.string s) none (some (.int .i64 m)) none).run Tryd.prog W = .ok (.string t) W) ∧ t.size ≤ k := by
  refine ⟨if (k : Int) < s.size then k else s.size, s.extract 0 (if (k : Int) < s.size then (k : Int) else s.size).toNat, fun W ats ty => min_is _ _ _ _ _, fun W => ?_, ?_⟩
  · exact run_slice_string_h (w := W) (ht := Tryd.underlying9) (kh := .i64) (h := if (k : Int) < s.size then (k : Int) else s.size) (h0 := by split <;> omega) (h2 := by split <;> omega)
  · rw [ByteArray.size_extract]
    split <;> omega
theorem textV_size {c : List Int} (hc : c.length = 15) (hw : ∀ x ∈ c, (Lit.int .i64 x).wf = true) : (textV c).size ≤ 9999 := by
  have := digs_join hw
  unfold textV joinV
  rw [bs_size]
  omega
set_option maxRecDepth 100000 in
set_option maxHeartbeats 4000000 in
theorem back_00 (c : List Int) (hc : c.length = 15) (hw : ∀ x ∈ c, (Lit.int .i64 x).wf = true) (s0 s : ByteArray) (m : Int) (d : List Int) (e1 : Int) (x : List Int) (e2 : Int) (w : World) (hv : Vars w) (hts : (textV c).size ≤ 9999) (hss : s.size ≤ 9999)
    (hmin : ∀ W ats ty, (Builtin.min_ ats ty #[.int .i64 (s0.size : Int), .int .i64 250]).run Tryd.prog W = .ok (.int .i64 m) W) (hsl : ∀ W, (Instr.slice 9 (.string s0) none (some (.int .i64 m)) none).run Tryd.prog W = .ok (.string s) W)
    (hr1 : readV (textV c) = (d, e1)) (hr2 : readV s = (x, e2)) (hd : d.length = 15) (hx : x.length = 15) (hxw : ∀ y ∈ x, (Lit.int .i64 y).wf = true) (q1 : (checkV c).2 = 0) (q2 : e1 = 0) (q3 : d = c) (p1 : e2 ≠ 0) :
    Calls Tryd.prog 4 #[.agg (cfgA c), .string s0] w fun e w' => e = .returned (.bool true) ∧ Below w.heap.size w w' := by
  have HV := Lib.hid hv
  have HL := Lib.hid (lives_any _ (hv.below ((Below.refl w.heap.size w).alloc (Nat.le_refl _) (.cells (cfgA c) 24))))
  have HC := Lib.hid (check_any c hc)
  have HT := Lib.hid (text_any c hc hw)
  have HR1 := Lib.hid (read_any (textV c) hts)
  have HR2 := Lib.hid (read_any s hss)
  have HCX := Lib.hid (check_any x hx)
  have HTX := Lib.hid (text_any x hx hxw)
  rw [hr1] at HR1
  rw [hr2] at HR2
  have hsc := cfg_sz hc
  have hsd := cfg_sz hd
  have hsx := cfg_sz hx
  have HZD := Lib.hid (show (15 : Nat) = (cfgA d).size by rw [cfgA_size, hd])
  have HZX := Lib.hid (show (15 : Nat) = (cfgA x).size by rw [cfgA_size, hx])
  have HEQ := fun dd W => eqCfg dd W hd hc
  have t1 : ((checkV c).2 == 0) = true := by rw [q1]; rfl
  have t2 : (e1 != 0) = false := by rw [q2]; rfl
  have t3 : (e1 == 0) = true := by rw [q2]; rfl
  have t4 : decide (d = c) = true := decide_eq_true q3
  clear q1 q2 q3
  have u1 : (e2 != 0) = true := bne_iff_ne.2 p1
  clear p1
  have HW := Lib.hid hw
  clear hv hr1 hr2 hw hxw hts hss
  go_enter Tryd.func4, Tryd.ntmps4
  go_wp2_with fail
  refine HL.out.mono ?_
  rintro e w1 ⟨rfl, b1⟩
  have HK1 := Lib.hid (show Blk w1 w.heap.size 24 (cfgA c) from (b1.block _ (by simp)).trans (heap_alloc_new _ _))
  have B1 := Lib.hid (((Below.refl w.heap.size w).alloc (Nat.le_refl _) _).trans (b1.mono (by simp)))
  clear b1 HL
  go_wp2_with (first | (refine load_blk (by rfl) _ (by rfl) (by rfl) HK1.out _ Tryd.underlying24 rfl hsc ?_) | (refine load_blk_g (by rfl) _ (by rfl) (by rfl) HK1.out _ Tryd.underlying24 rfl hsc ?_))
  refine (HC.out w1).mono ?_
  rintro e w2 ⟨rfl, b2⟩
  have HK2 := Lib.hid (HK1.out.b b2)
  have B2 := Lib.hid (B1.out.trans (b2.mono B1.out.size))
  clear b2 HK1 B1 HC
  go_wp2_with (first | (refine load_blk (by rfl) _ (by rfl) (by rfl) HK2.out _ Tryd.underlying24 rfl hsc ?_) | (refine load_blk_g (by rfl) _ (by rfl) (by rfl) HK2.out _ Tryd.underlying24 rfl hsc ?_))
  refine (HT.out w2 (HV.out.below B2.out)).mono ?_
  rintro e w3 ⟨rfl, b3⟩
  have HK3 := Lib.hid (HK2.out.b b3)
  have B3 := Lib.hid (B2.out.trans (b3.mono B2.out.size))
  clear b3 HK2 B2 HT
  go_wp2_with fail
  refine (HR1.out w3 (HV.out.below B3.out)).mono ?_
  rintro e w4 ⟨rfl, b4⟩
  have HK4 := Lib.hid (HK3.out.b b4)
  have B4 := Lib.hid (B3.out.trans (b4.mono B3.out.size))
  have hlt4 := HK4.out.lt
  clear b4 HK3 B3 HR1
  go_wp2_with (first | (refine store_blk (C := cfgA d) (by rfl) _ _ (by rfl) (by rfl) (by rfl) (heap_at_new _ (by simp)) HZD.out hsd (cfgA_one _) ?_; intro w5 hb5 ho5; have HD5 := Lib.hid hb5; have HK5 := Lib.hid (Blk.only (HK4.out.alloc _) ho5 (by show ¬ w.heap.size = w4.heap.size; omega)); have B5 := Lib.hid (only_below (B4.out.alloc B4.out.size _) ho5 B4.out.size); clear hb5 ho5) | (refine load_blk (by rfl) _ (by rfl) (by rfl) HD5.out _ Tryd.underlying24 rfl hsd ?_) | (refine load_blk_g (by rfl) _ (by rfl) (by rfl) HD5.out _ Tryd.underlying24 rfl hsd ?_) | (refine load_blk (by rfl) _ (by rfl) (by rfl) HK5.out _ Tryd.underlying24 rfl hsc ?_) | (refine load_blk_g (by rfl) _ (by rfl) (by rfl) HK5.out _ Tryd.underlying24 rfl hsc ?_))
  refine (HR2.out w5 (HV.out.below B5.out)).mono ?_
  rintro e w6 ⟨rfl, b6⟩
  have B6 := Lib.hid (B5.out.trans (b6.mono B5.out.size))
  clear b6 HR2 HD5 HK5 B5 HK4 B4
  go_wp2_with (first | (refine store_blk (C := cfgA x) (by rfl) _ _ (by rfl) (by rfl) (by rfl) (heap_at_new _ (by simp)) HZX.out hsx (cfgA_one _) ?_; intro w7 hb7 ho7; have HX7 := Lib.hid hb7; have B7 := Lib.hid (only_below (B6.out.alloc B6.out.size _) ho7 B6.out.size); clear hb7 ho7) | (refine load_blk (by rfl) _ (by rfl) (by rfl) HX7.out _ Tryd.underlying24 rfl hsx ?_) | (refine load_blk_g (by rfl) _ (by rfl) (by rfl) HX7.out _ Tryd.underlying24 rfl hsx ?_))
  refine (HCX.out w7).mono ?_
  rintro e w8 ⟨rfl, b8⟩
  have HX8 := Lib.hid (HX7.out.b b8)
  have B8 := Lib.hid (B7.out.trans (b8.mono B7.out.size))
  clear b8 HCX HX7 B7 B6
  go_wp2_with fail
  go_ret
  exact ⟨rfl, B8.out⟩
set_option maxRecDepth 100000 in
set_option maxHeartbeats 4000000 in
theorem back_01 (c : List Int) (hc : c.length = 15) (hw : ∀ x ∈ c, (Lit.int .i64 x).wf = true) (s0 s : ByteArray) (m : Int) (d : List Int) (e1 : Int) (x : List Int) (e2 : Int) (w : World) (hv : Vars w) (hts : (textV c).size ≤ 9999) (hss : s.size ≤ 9999)
    (hmin : ∀ W ats ty, (Builtin.min_ ats ty #[.int .i64 (s0.size : Int), .int .i64 250]).run Tryd.prog W = .ok (.int .i64 m) W) (hsl : ∀ W, (Instr.slice 9 (.string s0) none (some (.int .i64 m)) none).run Tryd.prog W = .ok (.string s) W)
    (hr1 : readV (textV c) = (d, e1)) (hr2 : readV s = (x, e2)) (hd : d.length = 15) (hx : x.length = 15) (hxw : ∀ y ∈ x, (Lit.int .i64 y).wf = true) (q1 : (checkV c).2 = 0) (q2 : e1 = 0) (q3 : d = c) (p1 : e2 = 0) (p2 : textV x = s) (p3 : (checkV x).2 = 0) :
    Calls Tryd.prog 4 #[.agg (cfgA c), .string s0] w fun e w' => e = .returned (.bool true) ∧ Below w.heap.size w w' := by
  have HV := Lib.hid hv
  have HL := Lib.hid (lives_any _ (hv.below ((Below.refl w.heap.size w).alloc (Nat.le_refl _) (.cells (cfgA c) 24))))
  have HC := Lib.hid (check_any c hc)
  have HT := Lib.hid (text_any c hc hw)
  have HR1 := Lib.hid (read_any (textV c) hts)
  have HR2 := Lib.hid (read_any s hss)
  have HCX := Lib.hid (check_any x hx)
  have HTX := Lib.hid (text_any x hx hxw)
  rw [hr1] at HR1
  rw [hr2] at HR2
  have hsc := cfg_sz hc
  have hsd := cfg_sz hd
  have hsx := cfg_sz hx
  have HZD := Lib.hid (show (15 : Nat) = (cfgA d).size by rw [cfgA_size, hd])
  have HZX := Lib.hid (show (15 : Nat) = (cfgA x).size by rw [cfgA_size, hx])
  have HEQ := fun dd W => eqCfg dd W hd hc
  have t1 : ((checkV c).2 == 0) = true := by rw [q1]; rfl
  have t2 : (e1 != 0) = false := by rw [q2]; rfl
  have t3 : (e1 == 0) = true := by rw [q2]; rfl
  have t4 : decide (d = c) = true := decide_eq_true q3
  clear q1 q2 q3
  have u1 : (e2 != 0) = false := by rw [p1]; rfl
  have u2 : (s.toList == s.toList) = true := by simp
  have u3 : ((checkV x).2 == 0) = true := by rw [p3]; rfl
  rw [p2] at HTX
  clear p1 p2 p3
  have HW := Lib.hid hw
  clear hv hr1 hr2 hw hxw hts hss
  go_enter Tryd.func4, Tryd.ntmps4
  go_wp2_with fail
  refine HL.out.mono ?_
  rintro e w1 ⟨rfl, b1⟩
  have HK1 := Lib.hid (show Blk w1 w.heap.size 24 (cfgA c) from (b1.block _ (by simp)).trans (heap_alloc_new _ _))
  have B1 := Lib.hid (((Below.refl w.heap.size w).alloc (Nat.le_refl _) _).trans (b1.mono (by simp)))
  clear b1 HL
  go_wp2_with (first | (refine load_blk (by rfl) _ (by rfl) (by rfl) HK1.out _ Tryd.underlying24 rfl hsc ?_) | (refine load_blk_g (by rfl) _ (by rfl) (by rfl) HK1.out _ Tryd.underlying24 rfl hsc ?_))
  refine (HC.out w1).mono ?_
  rintro e w2 ⟨rfl, b2⟩
  have HK2 := Lib.hid (HK1.out.b b2)
  have B2 := Lib.hid (B1.out.trans (b2.mono B1.out.size))
  clear b2 HK1 B1 HC
  go_wp2_with (first | (refine load_blk (by rfl) _ (by rfl) (by rfl) HK2.out _ Tryd.underlying24 rfl hsc ?_) | (refine load_blk_g (by rfl) _ (by rfl) (by rfl) HK2.out _ Tryd.underlying24 rfl hsc ?_))
  refine (HT.out w2 (HV.out.below B2.out)).mono ?_
  rintro e w3 ⟨rfl, b3⟩
  have HK3 := Lib.hid (HK2.out.b b3)
  have B3 := Lib.hid (B2.out.trans (b3.mono B2.out.size))
  clear b3 HK2 B2 HT
  go_wp2_with fail
  refine (HR1.out w3 (HV.out.below B3.out)).mono ?_
  rintro e w4 ⟨rfl, b4⟩
  have HK4 := Lib.hid (HK3.out.b b4)
  have B4 := Lib.hid (B3.out.trans (b4.mono B3.out.size))
  have hlt4 := HK4.out.lt
  clear b4 HK3 B3 HR1
  go_wp2_with (first | (refine store_blk (C := cfgA d) (by rfl) _ _ (by rfl) (by rfl) (by rfl) (heap_at_new _ (by simp)) HZD.out hsd (cfgA_one _) ?_; intro w5 hb5 ho5; have HD5 := Lib.hid hb5; have HK5 := Lib.hid (Blk.only (HK4.out.alloc _) ho5 (by show ¬ w.heap.size = w4.heap.size; omega)); have B5 := Lib.hid (only_below (B4.out.alloc B4.out.size _) ho5 B4.out.size); clear hb5 ho5) | (refine load_blk (by rfl) _ (by rfl) (by rfl) HD5.out _ Tryd.underlying24 rfl hsd ?_) | (refine load_blk_g (by rfl) _ (by rfl) (by rfl) HD5.out _ Tryd.underlying24 rfl hsd ?_) | (refine load_blk (by rfl) _ (by rfl) (by rfl) HK5.out _ Tryd.underlying24 rfl hsc ?_) | (refine load_blk_g (by rfl) _ (by rfl) (by rfl) HK5.out _ Tryd.underlying24 rfl hsc ?_))
  refine (HR2.out w5 (HV.out.below B5.out)).mono ?_
  rintro e w6 ⟨rfl, b6⟩
  have B6 := Lib.hid (B5.out.trans (b6.mono B5.out.size))
  clear b6 HR2 HD5 HK5 B5 HK4 B4
  go_wp2_with (first | (refine store_blk (C := cfgA x) (by rfl) _ _ (by rfl) (by rfl) (by rfl) (heap_at_new _ (by simp)) HZX.out hsx (cfgA_one _) ?_; intro w7 hb7 ho7; have HX7 := Lib.hid hb7; have B7 := Lib.hid (only_below (B6.out.alloc B6.out.size _) ho7 B6.out.size); clear hb7 ho7) | (refine load_blk (by rfl) _ (by rfl) (by rfl) HX7.out _ Tryd.underlying24 rfl hsx ?_) | (refine load_blk_g (by rfl) _ (by rfl) (by rfl) HX7.out _ Tryd.underlying24 rfl hsx ?_))
  refine (HCX.out w7).mono ?_
  rintro e w8 ⟨rfl, b8⟩
  have HX8 := Lib.hid (HX7.out.b b8)
  have B8 := Lib.hid (B7.out.trans (b8.mono B7.out.size))
  clear b8 HCX HX7 B7 B6
  go_wp2_with (first | (refine load_blk (by rfl) _ (by rfl) (by rfl) HX8.out _ Tryd.underlying24 rfl hsx ?_) | (refine load_blk_g (by rfl) _ (by rfl) (by rfl) HX8.out _ Tryd.underlying24 rfl hsx ?_))
  refine (HTX.out w8 (HV.out.below B8.out)).mono ?_
  rintro e w9 ⟨rfl, b9⟩
  have B9 := Lib.hid (B8.out.trans (b9.mono B8.out.size))
  clear b9 HTX B8 HX8
  go_wp2_with fail
  go_ret
  exact ⟨rfl, B9.out⟩
set_option maxRecDepth 100000 in
set_option maxHeartbeats 4000000 in
theorem back_10 (c : List Int) (hc : c.length = 15) (hw : ∀ x ∈ c, (Lit.int .i64 x).wf = true) (s0 s : ByteArray) (m : Int) (d : List Int) (e1 : Int) (x : List Int) (e2 : Int) (w : World) (hv : Vars w) (hts : (textV c).size ≤ 9999) (hss : s.size ≤ 9999)
    (hmin : ∀ W ats ty, (Builtin.min_ ats ty #[.int .i64 (s0.size : Int), .int .i64 250]).run Tryd.prog W = .ok (.int .i64 m) W) (hsl : ∀ W, (Instr.slice 9 (.string s0) none (some (.int .i64 m)) none).run Tryd.prog W = .ok (.string s) W)
    (hr1 : readV (textV c) = (d, e1)) (hr2 : readV s = (x, e2)) (hd : d.length = 15) (hx : x.length = 15) (hxw : ∀ y ∈ x, (Lit.int .i64 y).wf = true) (q1 : (checkV c).2 ≠ 0) (q2 : e1 = 0) (q3 : d = c) (p1 : e2 ≠ 0) :
    Calls Tryd.prog 4 #[.agg (cfgA c), .string s0] w fun e w' => e = .returned (.bool true) ∧ Below w.heap.size w w' := by
  have HV := Lib.hid hv
  have HL := Lib.hid (lives_any _ (hv.below ((Below.refl w.heap.size w).alloc (Nat.le_refl _) (.cells (cfgA c) 24))))
  have HC := Lib.hid (check_any c hc)
  have HT := Lib.hid (text_any c hc hw)
  have HR1 := Lib.hid (read_any (textV c) hts)
  have HR2 := Lib.hid (read_any s hss)
  have HCX := Lib.hid (check_any x hx)
  have HTX := Lib.hid (text_any x hx hxw)
  rw [hr1] at HR1
  rw [hr2] at HR2
  have hsc := cfg_sz hc
  have hsd := cfg_sz hd
  have hsx := cfg_sz hx
  have HZD := Lib.hid (show (15 : Nat) = (cfgA d).size by rw [cfgA_size, hd])
  have HZX := Lib.hid (show (15 : Nat) = (cfgA x).size by rw [cfgA_size, hx])
  have HEQ := fun dd W => eqCfg dd W hd hc
  have t1 : ((checkV c).2 == 0) = false := beq_eq_false_iff_ne.2 q1
  have t3 : (e1 == 0) = true := by rw [q2]; rfl
  have t4 : decide (d = c) = true := decide_eq_true q3
  clear q1 q2 q3
  have u1 : (e2 != 0) = true := bne_iff_ne.2 p1
  clear p1
  have HW := Lib.hid hw
  clear hv hr1 hr2 hw hxw hts hss
  go_enter Tryd.func4, Tryd.ntmps4
  go_wp2_with fail
  refine HL.out.mono ?_
  rintro e w1 ⟨rfl, b1⟩
  have HK1 := Lib.hid (show Blk w1 w.heap.size 24 (cfgA c) from (b1.block _ (by simp)).trans (heap_alloc_new _ _))
  have B1 := Lib.hid (((Below.refl w.heap.size w).alloc (Nat.le_refl _) _).trans (b1.mono (by simp)))
  clear b1 HL
  go_wp2_with (first | (refine load_blk (by rfl) _ (by rfl) (by rfl) HK1.out _ Tryd.underlying24 rfl hsc ?_) | (refine load_blk_g (by rfl) _ (by rfl) (by rfl) HK1.out _ Tryd.underlying24 rfl hsc ?_))
  refine (HC.out w1).mono ?_
  rintro e w2 ⟨rfl, b2⟩
  have HK2 := Lib.hid (HK1.out.b b2)
  have B2 := Lib.hid (B1.out.trans (b2.mono B1.out.size))
  clear b2 HK1 B1 HC
  go_wp2_with (first | (refine load_blk (by rfl) _ (by rfl) (by rfl) HK2.out _ Tryd.underlying24 rfl hsc ?_) | (refine load_blk_g (by rfl) _ (by rfl) (by rfl) HK2.out _ Tryd.underlying24 rfl hsc ?_))
  refine (HT.out w2 (HV.out.below B2.out)).mono ?_
  rintro e w3 ⟨rfl, b3⟩
  have HK3 := Lib.hid (HK2.out.b b3)
  have B3 := Lib.hid (B2.out.trans (b3.mono B2.out.size))
  clear b3 HK2 B2 HT
  go_wp2_with fail
  refine (HR1.out w3 (HV.out.below B3.out)).mono ?_
  rintro e w4 ⟨rfl, b4⟩
  have HK4 := Lib.hid (HK3.out.b b4)
  have B4 := Lib.hid (B3.out.trans (b4.mono B3.out.size))
  have hlt4 := HK4.out.lt
  clear b4 HK3 B3 HR1
  go_wp2_with (first | (refine store_blk (C := cfgA d) (by rfl) _ _ (by rfl) (by rfl) (by rfl) (heap_at_new _ (by simp)) HZD.out hsd (cfgA_one _) ?_; intro w5 hb5 ho5; have HD5 := Lib.hid hb5; have HK5 := Lib.hid (Blk.only (HK4.out.alloc _) ho5 (by show ¬ w.heap.size = w4.heap.size; omega)); have B5 := Lib.hid (only_below (B4.out.alloc B4.out.size _) ho5 B4.out.size); clear hb5 ho5) | (refine load_blk (by rfl) _ (by rfl) (by rfl) HD5.out _ Tryd.underlying24 rfl hsd ?_) | (refine load_blk_g (by rfl) _ (by rfl) (by rfl) HD5.out _ Tryd.underlying24 rfl hsd ?_) | (refine load_blk (by rfl) _ (by rfl) (by rfl) HK5.out _ Tryd.underlying24 rfl hsc ?_) | (refine load_blk_g (by rfl) _ (by rfl) (by rfl) HK5.out _ Tryd.underlying24 rfl hsc ?_))
  refine (HR2.out w5 (HV.out.below B5.out)).mono ?_
  rintro e w6 ⟨rfl, b6⟩
  have B6 := Lib.hid (B5.out.trans (b6.mono B5.out.size))
  clear b6 HR2 HD5 HK5 B5 HK4 B4
  go_wp2_with (first | (refine store_blk (C := cfgA x) (by rfl) _ _ (by rfl) (by rfl) (by rfl) (heap_at_new _ (by simp)) HZX.out hsx (cfgA_one _) ?_; intro w7 hb7 ho7; have HX7 := Lib.hid hb7; have B7 := Lib.hid (only_below (B6.out.alloc B6.out.size _) ho7 B6.out.size); clear hb7 ho7) | (refine load_blk (by rfl) _ (by rfl) (by rfl) HX7.out _ Tryd.underlying24 rfl hsx ?_) | (refine load_blk_g (by rfl) _ (by rfl) (by rfl) HX7.out _ Tryd.underlying24 rfl hsx ?_))
  refine (HCX.out w7).mono ?_
  rintro e w8 ⟨rfl, b8⟩
  have HX8 := Lib.hid (HX7.out.b b8)
  have B8 := Lib.hid (B7.out.trans (b8.mono B7.out.size))
  clear b8 HCX HX7 B7 B6
  go_wp2_with fail
  go_ret
  exact ⟨rfl, B8.out⟩
set_option maxRecDepth 100000 in
set_option maxHeartbeats 4000000 in
theorem back_11 (c : List Int) (hc : c.length = 15) (hw : ∀ x ∈ c, (Lit.int .i64 x).wf = true) (s0 s : ByteArray) (m : Int) (d : List Int) (e1 : Int) (x : List Int) (e2 : Int) (w : World) (hv : Vars w) (hts : (textV c).size ≤ 9999) (hss : s.size ≤ 9999)
    (hmin : ∀ W ats ty, (Builtin.min_ ats ty #[.int .i64 (s0.size : Int), .int .i64 250]).run Tryd.prog W = .ok (.int .i64 m) W) (hsl : ∀ W, (Instr.slice 9 (.string s0) none (some (.int .i64 m)) none).run Tryd.prog W = .ok (.string s) W)
    (hr1 : readV (textV c) = (d, e1)) (hr2 : readV s = (x, e2)) (hd : d.length = 15) (hx : x.length = 15) (hxw : ∀ y ∈ x, (Lit.int .i64 y).wf = true) (q1 : (checkV c).2 ≠ 0) (q2 : e1 = 0) (q3 : d = c) (p1 : e2 = 0) (p2 : textV x = s) (p3 : (checkV x).2 = 0) :
    Calls Tryd.prog 4 #[.agg (cfgA c), .string s0] w fun e w' => e = .returned (.bool true) ∧ Below w.heap.size w w' := by
  have HV := Lib.hid hv
  have HL := Lib.hid (lives_any _ (hv.below ((Below.refl w.heap.size w).alloc (Nat.le_refl _) (.cells (cfgA c) 24))))
  have HC := Lib.hid (check_any c hc)
  have HT := Lib.hid (text_any c hc hw)
  have HR1 := Lib.hid (read_any (textV c) hts)
  have HR2 := Lib.hid (read_any s hss)
  have HCX := Lib.hid (check_any x hx)
  have HTX := Lib.hid (text_any x hx hxw)
  rw [hr1] at HR1
  rw [hr2] at HR2
  have hsc := cfg_sz hc
  have hsd := cfg_sz hd
  have hsx := cfg_sz hx
  have HZD := Lib.hid (show (15 : Nat) = (cfgA d).size by rw [cfgA_size, hd])
  have HZX := Lib.hid (show (15 : Nat) = (cfgA x).size by rw [cfgA_size, hx])
  have HEQ := fun dd W => eqCfg dd W hd hc
  have t1 : ((checkV c).2 == 0) = false := beq_eq_false_iff_ne.2 q1
  have t3 : (e1 == 0) = true := by rw [q2]; rfl
  have t4 : decide (d = c) = true := decide_eq_true q3
  clear q1 q2 q3
  have u1 : (e2 != 0) = false := by rw [p1]; rfl
  have u2 : (s.toList == s.toList) = true := by simp
  have u3 : ((checkV x).2 == 0) = true := by rw [p3]; rfl
  rw [p2] at HTX
  clear p1 p2 p3
  have HW := Lib.hid hw
  clear hv hr1 hr2 hw hxw hts hss
  go_enter Tryd.func4, Tryd.ntmps4
  go_wp2_with fail
  refine HL.out.mono ?_
  rintro e w1 ⟨rfl, b1⟩
  have HK1 := Lib.hid (show Blk w1 w.heap.size 24 (cfgA c) from (b1.block _ (by simp)).trans (heap_alloc_new _ _))
  have B1 := Lib.hid (((Below.refl w.heap.size w).alloc (Nat.le_refl _) _).trans (b1.mono (by simp)))
  clear b1 HL
  go_wp2_with (first | (refine load_blk (by rfl) _ (by rfl) (by rfl) HK1.out _ Tryd.underlying24 rfl hsc ?_) | (refine load_blk_g (by rfl) _ (by rfl) (by rfl) HK1.out _ Tryd.underlying24 rfl hsc ?_))
  refine (HC.out w1).mono ?_
  rintro e w2 ⟨rfl, b2⟩
  have HK2 := Lib.hid (HK1.out.b b2)
  have B2 := Lib.hid (B1.out.trans (b2.mono B1.out.size))
  clear b2 HK1 B1 HC
  go_wp2_with (first | (refine load_blk (by rfl) _ (by rfl) (by rfl) HK2.out _ Tryd.underlying24 rfl hsc ?_) | (refine load_blk_g (by rfl) _ (by rfl) (by rfl) HK2.out _ Tryd.underlying24 rfl hsc ?_))
  refine (HT.out w2 (HV.out.below B2.out)).mono ?_
  rintro e w3 ⟨rfl, b3⟩
  have HK3 := Lib.hid (HK2.out.b b3)
  have B3 := Lib.hid (B2.out.trans (b3.mono B2.out.size))
  clear b3 HK2 B2 HT
  go_wp2_with fail
  refine (HR1.out w3 (HV.out.below B3.out)).mono ?_
  rintro e w4 ⟨rfl, b4⟩
  have HK4 := Lib.hid (HK3.out.b b4)
  have B4 := Lib.hid (B3.out.trans (b4.mono B3.out.size))
  have hlt4 := HK4.out.lt
  clear b4 HK3 B3 HR1
  go_wp2_with (first | (refine store_blk (C := cfgA d) (by rfl) _ _ (by rfl) (by rfl) (by rfl) (heap_at_new _ (by simp)) HZD.out hsd (cfgA_one _) ?_; intro w5 hb5 ho5; have HD5 := Lib.hid hb5; have HK5 := Lib.hid (Blk.only (HK4.out.alloc _) ho5 (by show ¬ w.heap.size = w4.heap.size; omega)); have B5 := Lib.hid (only_below (B4.out.alloc B4.out.size _) ho5 B4.out.size); clear hb5 ho5) | (refine load_blk (by rfl) _ (by rfl) (by rfl) HD5.out _ Tryd.underlying24 rfl hsd ?_) | (refine load_blk_g (by rfl) _ (by rfl) (by rfl) HD5.out _ Tryd.underlying24 rfl hsd ?_) | (refine load_blk (by rfl) _ (by rfl) (by rfl) HK5.out _ Tryd.underlying24 rfl hsc ?_) | (refine load_blk_g (by rfl) _ (by rfl) (by rfl) HK5.out _ Tryd.underlying24 rfl hsc ?_))
  refine (HR2.out w5 (HV.out.below B5.out)).mono ?_
  rintro e w6 ⟨rfl, b6⟩
  have B6 := Lib.hid (B5.out.trans (b6.mono B5.out.size))
  clear b6 HR2 HD5 HK5 B5 HK4 B4
  go_wp2_with (first | (refine store_blk (C := cfgA x) (by rfl) _ _ (by rfl) (by rfl) (by rfl) (heap_at_new _ (by simp)) HZX.out hsx (cfgA_one _) ?_; intro w7 hb7 ho7; have HX7 := Lib.hid hb7; have B7 := Lib.hid (only_below (B6.out.alloc B6.out.size _) ho7 B6.out.size); clear hb7 ho7) | (refine load_blk (by rfl) _ (by rfl) (by rfl) HX7.out _ Tryd.underlying24 rfl hsx ?_) | (refine load_blk_g (by rfl) _ (by rfl) (by rfl) HX7.out _ Tryd.underlying24 rfl hsx ?_))
  refine (HCX.out w7).mono ?_
  rintro e w8 ⟨rfl, b8⟩
  have HX8 := Lib.hid (HX7.out.b b8)
  have B8 := Lib.hid (B7.out.trans (b8.mono B7.out.size))
  clear b8 HCX HX7 B7 B6
  go_wp2_with (first | (refine load_blk (by rfl) _ (by rfl) (by rfl) HX8.out _ Tryd.underlying24 rfl hsx ?_) | (refine load_blk_g (by rfl) _ (by rfl) (by rfl) HX8.out _ Tryd.underlying24 rfl hsx ?_))
  refine (HTX.out w8 (HV.out.below B8.out)).mono ?_
  rintro e w9 ⟨rfl, b9⟩
  have B9 := Lib.hid (B8.out.trans (b9.mono B8.out.size))
  clear b9 HTX B8 HX8
  go_wp2_with fail
  go_ret
  exact ⟨rfl, B9.out⟩
set_option maxRecDepth 100000 in
set_option maxHeartbeats 4000000 in
theorem back_20 (c : List Int) (hc : c.length = 15) (hw : ∀ x ∈ c, (Lit.int .i64 x).wf = true) (s0 s : ByteArray) (m : Int) (d : List Int) (e1 : Int) (x : List Int) (e2 : Int) (w : World) (hv : Vars w) (hts : (textV c).size ≤ 9999) (hss : s.size ≤ 9999)
    (hmin : ∀ W ats ty, (Builtin.min_ ats ty #[.int .i64 (s0.size : Int), .int .i64 250]).run Tryd.prog W = .ok (.int .i64 m) W) (hsl : ∀ W, (Instr.slice 9 (.string s0) none (some (.int .i64 m)) none).run Tryd.prog W = .ok (.string s) W)
    (hr1 : readV (textV c) = (d, e1)) (hr2 : readV s = (x, e2)) (hd : d.length = 15) (hx : x.length = 15) (hxw : ∀ y ∈ x, (Lit.int .i64 y).wf = true) (q1 : (checkV c).2 ≠ 0) (q2 : e1 ≠ 0) (p1 : e2 ≠ 0) :
    Calls Tryd.prog 4 #[.agg (cfgA c), .string s0] w fun e w' => e = .returned (.bool true) ∧ Below w.heap.size w w' := by
  have HV := Lib.hid hv
  have HL := Lib.hid (lives_any _ (hv.below ((Below.refl w.heap.size w).alloc (Nat.le_refl _) (.cells (cfgA c) 24))))
  have HC := Lib.hid (check_any c hc)
  have HT := Lib.hid (text_any c hc hw)
  have HR1 := Lib.hid (read_any (textV c) hts)
  have HR2 := Lib.hid (read_any s hss)
  have HCX := Lib.hid (check_any x hx)
  have HTX := Lib.hid (text_any x hx hxw)
  rw [hr1] at HR1
  rw [hr2] at HR2
  have hsc := cfg_sz hc
  have hsd := cfg_sz hd
  have hsx := cfg_sz hx
  have HZD := Lib.hid (show (15 : Nat) = (cfgA d).size by rw [cfgA_size, hd])
  have HZX := Lib.hid (show (15 : Nat) = (cfgA x).size by rw [cfgA_size, hx])
  have HEQ := fun dd W => eqCfg dd W hd hc
  have t1 : ((checkV c).2 == 0) = false := beq_eq_false_iff_ne.2 q1
  have t3 : (e1 == 0) = false := beq_eq_false_iff_ne.2 q2
  clear q1 q2
  have u1 : (e2 != 0) = true := bne_iff_ne.2 p1
  clear p1
  have HW := Lib.hid hw
  clear hv hr1 hr2 hw hxw hts hss
  go_enter Tryd.func4, Tryd.ntmps4
  go_wp2_with fail
  refine HL.out.mono ?_
  rintro e w1 ⟨rfl, b1⟩
  have HK1 := Lib.hid (show Blk w1 w.heap.size 24 (cfgA c) from (b1.block _ (by simp)).trans (heap_alloc_new _ _))
  have B1 := Lib.hid (((Below.refl w.heap.size w).alloc (Nat.le_refl _) _).trans (b1.mono (by simp)))
  clear b1 HL
  go_wp2_with (first | (refine load_blk (by rfl) _ (by rfl) (by rfl) HK1.out _ Tryd.underlying24 rfl hsc ?_) | (refine load_blk_g (by rfl) _ (by rfl) (by rfl) HK1.out _ Tryd.underlying24 rfl hsc ?_))
  refine (HC.out w1).mono ?_
  rintro e w2 ⟨rfl, b2⟩
  have HK2 := Lib.hid (HK1.out.b b2)
  have B2 := Lib.hid (B1.out.trans (b2.mono B1.out.size))
  clear b2 HK1 B1 HC
  go_wp2_with (first | (refine load_blk (by rfl) _ (by rfl) (by rfl) HK2.out _ Tryd.underlying24 rfl hsc ?_) | (refine load_blk_g (by rfl) _ (by rfl) (by rfl) HK2.out _ Tryd.underlying24 rfl hsc ?_))
  refine (HT.out w2 (HV.out.below B2.out)).mono ?_
  rintro e w3 ⟨rfl, b3⟩
  have HK3 := Lib.hid (HK2.out.b b3)
  have B3 := Lib.hid (B2.out.trans (b3.mono B2.out.size))
  clear b3 HK2 B2 HT
  go_wp2_with fail
  refine (HR1.out w3 (HV.out.below B3.out)).mono ?_
  rintro e w4 ⟨rfl, b4⟩
  have HK4 := Lib.hid (HK3.out.b b4)
  have B4 := Lib.hid (B3.out.trans (b4.mono B3.out.size))
  have hlt4 := HK4.out.lt
  clear b4 HK3 B3 HR1
  go_wp2_with (first | (refine store_blk (C := cfgA d) (by rfl) _ _ (by rfl) (by rfl) (by rfl) (heap_at_new _ (by simp)) HZD.out hsd (cfgA_one _) ?_; intro w5 hb5 ho5; have HD5 := Lib.hid hb5; have HK5 := Lib.hid (Blk.only (HK4.out.alloc _) ho5 (by show ¬ w.heap.size = w4.heap.size; omega)); have B5 := Lib.hid (only_below (B4.out.alloc B4.out.size _) ho5 B4.out.size); clear hb5 ho5) | (refine load_blk (by rfl) _ (by rfl) (by rfl) HD5.out _ Tryd.underlying24 rfl hsd ?_) | (refine load_blk_g (by rfl) _ (by rfl) (by rfl) HD5.out _ Tryd.underlying24 rfl hsd ?_) | (refine load_blk (by rfl) _ (by rfl) (by rfl) HK5.out _ Tryd.underlying24 rfl hsc ?_) | (refine load_blk_g (by rfl) _ (by rfl) (by rfl) HK5.out _ Tryd.underlying24 rfl hsc ?_))
  refine (HR2.out w5 (HV.out.below B5.out)).mono ?_
  rintro e w6 ⟨rfl, b6⟩
  have B6 := Lib.hid (B5.out.trans (b6.mono B5.out.size))
  clear b6 HR2 HD5 HK5 B5 HK4 B4
  go_wp2_with (first | (refine store_blk (C := cfgA x) (by rfl) _ _ (by rfl) (by rfl) (by rfl) (heap_at_new _ (by simp)) HZX.out hsx (cfgA_one _) ?_; intro w7 hb7 ho7; have HX7 := Lib.hid hb7; have B7 := Lib.hid (only_below (B6.out.alloc B6.out.size _) ho7 B6.out.size); clear hb7 ho7) | (refine load_blk (by rfl) _ (by rfl) (by rfl) HX7.out _ Tryd.underlying24 rfl hsx ?_) | (refine load_blk_g (by rfl) _ (by rfl) (by rfl) HX7.out _ Tryd.underlying24 rfl hsx ?_))
  refine (HCX.out w7).mono ?_
  rintro e w8 ⟨rfl, b8⟩
  have HX8 := Lib.hid (HX7.out.b b8)
  have B8 := Lib.hid (B7.out.trans (b8.mono B7.out.size))
  clear b8 HCX HX7 B7 B6
  go_wp2_with fail
  go_ret
  exact ⟨rfl, B8.out⟩
set_option maxRecDepth 100000 in
set_option maxHeartbeats 4000000 in
theorem back_21 (c : List Int) (hc : c.length = 15) (hw : ∀ x ∈ c, (Lit.int .i64 x).wf = true) (s0 s : ByteArray) (m : Int) (d : List Int) (e1 : Int) (x : List Int) (e2 : Int) (w : World) (hv : Vars w) (hts : (textV c).size ≤ 9999) (hss : s.size ≤ 9999)
    (hmin : ∀ W ats ty, (Builtin.min_ ats ty #[.int .i64 (s0.size : Int), .int .i64 250]).run Tryd.prog W = .ok (.int .i64 m) W) (hsl : ∀ W, (Instr.slice 9 (.string s0) none (some (.int .i64 m)) none).run Tryd.prog W = .ok (.string s) W)
    (hr1 : readV (textV c) = (d, e1)) (hr2 : readV s = (x, e2)) (hd : d.length = 15) (hx : x.length = 15) (hxw : ∀ y ∈ x, (Lit.int .i64 y).wf = true) (q1 : (checkV c).2 ≠ 0) (q2 : e1 ≠ 0) (p1 : e2 = 0) (p2 : textV x = s) (p3 : (checkV x).2 = 0) :
    Calls Tryd.prog 4 #[.agg (cfgA c), .string s0] w fun e w' => e = .returned (.bool true) ∧ Below w.heap.size w w' := by
  have HV := Lib.hid hv
  have HL := Lib.hid (lives_any _ (hv.below ((Below.refl w.heap.size w).alloc (Nat.le_refl _) (.cells (cfgA c) 24))))
  have HC := Lib.hid (check_any c hc)
  have HT := Lib.hid (text_any c hc hw)
  have HR1 := Lib.hid (read_any (textV c) hts)
  have HR2 := Lib.hid (read_any s hss)
  have HCX := Lib.hid (check_any x hx)
  have HTX := Lib.hid (text_any x hx hxw)
  rw [hr1] at HR1
  rw [hr2] at HR2
  have hsc := cfg_sz hc
  have hsd := cfg_sz hd
  have hsx := cfg_sz hx
  have HZD := Lib.hid (show (15 : Nat) = (cfgA d).size by rw [cfgA_size, hd])
  have HZX := Lib.hid (show (15 : Nat) = (cfgA x).size by rw [cfgA_size, hx])
  have HEQ := fun dd W => eqCfg dd W hd hc
  have t1 : ((checkV c).2 == 0) = false := beq_eq_false_iff_ne.2 q1
  have t3 : (e1 == 0) = false := beq_eq_false_iff_ne.2 q2
  clear q1 q2
  have u1 : (e2 != 0) = false := by rw [p1]; rfl
  have u2 : (s.toList == s.toList) = true := by simp
  have u3 : ((checkV x).2 == 0) = true := by rw [p3]; rfl
  rw [p2] at HTX
  clear p1 p2 p3
  have HW := Lib.hid hw
  clear hv hr1 hr2 hw hxw hts hss
  go_enter Tryd.func4, Tryd.ntmps4
  go_wp2_with fail
  refine HL.out.mono ?_
  rintro e w1 ⟨rfl, b1⟩
  have HK1 := Lib.hid (show Blk w1 w.heap.size 24 (cfgA c) from (b1.block _ (by simp)).trans (heap_alloc_new _ _))
  have B1 := Lib.hid (((Below.refl w.heap.size w).alloc (Nat.le_refl _) _).trans (b1.mono (by simp)))
  clear b1 HL
  go_wp2_with (first | (refine load_blk (by rfl) _ (by rfl) (by rfl) HK1.out _ Tryd.underlying24 rfl hsc ?_) | (refine load_blk_g (by rfl) _ (by rfl) (by rfl) HK1.out _ Tryd.underlying24 rfl hsc ?_))
  refine (HC.out w1).mono ?_
  rintro e w2 ⟨rfl, b2⟩
  have HK2 := Lib.hid (HK1.out.b b2)
  have B2 := Lib.hid (B1.out.trans (b2.mono B1.out.size))
  clear b2 HK1 B1 HC
  go_wp2_with (first | (refine load_blk (by rfl) _ (by rfl) (by rfl) HK2.out _ Tryd.underlying24 rfl hsc ?_) | (refine load_blk_g (by rfl) _ (by rfl) (by rfl) HK2.out _ Tryd.underlying24 rfl hsc ?_))
  refine (HT.out w2 (HV.out.below B2.out)).mono ?_
  rintro e w3 ⟨rfl, b3⟩
  have HK3 := Lib.hid (HK2.out.b b3)
  have B3 := Lib.hid (B2.out.trans (b3.mono B2.out.size))
  clear b3 HK2 B2 HT
  go_wp2_with fail
  refine (HR1.out w3 (HV.out.below B3.out)).mono ?_
  rintro e w4 ⟨rfl, b4⟩
  have HK4 := Lib.hid (HK3.out.b b4)
  have B4 := Lib.hid (B3.out.trans (b4.mono B3.out.size))
  have hlt4 := HK4.out.lt
  clear b4 HK3 B3 HR1
  go_wp2_with (first | (refine store_blk (C := cfgA d) (by rfl) _ _ (by rfl) (by rfl) (by rfl) (heap_at_new _ (by simp)) HZD.out hsd (cfgA_one _) ?_; intro w5 hb5 ho5; have HD5 := Lib.hid hb5; have HK5 := Lib.hid (Blk.only (HK4.out.alloc _) ho5 (by show ¬ w.heap.size = w4.heap.size; omega)); have B5 := Lib.hid (only_below (B4.out.alloc B4.out.size _) ho5 B4.out.size); clear hb5 ho5) | (refine load_blk (by rfl) _ (by rfl) (by rfl) HD5.out _ Tryd.underlying24 rfl hsd ?_) | (refine load_blk_g (by rfl) _ (by rfl) (by rfl) HD5.out _ Tryd.underlying24 rfl hsd ?_) | (refine load_blk (by rfl) _ (by rfl) (by rfl) HK5.out _ Tryd.underlying24 rfl hsc ?_) | (refine load_blk_g (by rfl) _ (by rfl) (by rfl) HK5.out _ Tryd.underlying24 rfl hsc ?_))
  refine (HR2.out w5 (HV.out.below B5.out)).mono ?_
  rintro e w6 ⟨rfl, b6⟩
  have B6 := Lib.hid (B5.out.trans (b6.mono B5.out.size))
  clear b6 HR2 HD5 HK5 B5 HK4 B4
  go_wp2_with (first | (refine store_blk (C := cfgA x) (by rfl) _ _ (by rfl) (by rfl) (by rfl) (heap_at_new _ (by simp)) HZX.out hsx (cfgA_one _) ?_; intro w7 hb7 ho7; have HX7 := Lib.hid hb7; have B7 := Lib.hid (only_below (B6.out.alloc B6.out.size _) ho7 B6.out.size); clear hb7 ho7) | (refine load_blk (by rfl) _ (by rfl) (by rfl) HX7.out _ Tryd.underlying24 rfl hsx ?_) | (refine load_blk_g (by rfl) _ (by rfl) (by rfl) HX7.out _ Tryd.underlying24 rfl hsx ?_))
  refine (HCX.out w7).mono ?_
  rintro e w8 ⟨rfl, b8⟩
  have HX8 := Lib.hid (HX7.out.b b8)
  have B8 := Lib.hid (B7.out.trans (b8.mono B7.out.size))
  clear b8 HCX HX7 B7 B6
  go_wp2_with (first | (refine load_blk (by rfl) _ (by rfl) (by rfl) HX8.out _ Tryd.underlying24 rfl hsx ?_) | (refine load_blk_g (by rfl) _ (by rfl) (by rfl) HX8.out _ Tryd.underlying24 rfl hsx ?_))
  refine (HTX.out w8 (HV.out.below B8.out)).mono ?_
  rintro e w9 ⟨rfl, b9⟩
  have B9 := Lib.hid (B8.out.trans (b9.mono B8.out.size))
  clear b9 HTX B8 HX8
  go_wp2_with fail
  go_ret
  exact ⟨rfl, B9.out⟩
theorem walk_ConfigBack (w : World) (c : List Int) (hc : c.length = 15) (hw : ∀ x ∈ c, (Lit.int .i64 x).wf = true) (s0 : ByteArray) (_ : s0.size ≤ maxLen) (hv : Vars w) :
    Calls Tryd.prog 4 #[.agg (cfgA c), .string s0] w fun e w' => e = .returned (.bool true) ∧ Below w.heap.size w w' := by
  obtain ⟨m, s, hmin, hsl, hs⟩ := cut_facts 250 s0
  have hts := textV_size hc hw
  have hd := readV_len (textV c)
  have hx := readV_len s
  have hxw := readV_wf s
  have tb := fun h => text_back hc (h : (checkV c).2 = 0)
  have ts := fun h => text_same hc (h : (readV (textV c)).2 = 0)
  have rb := fun h => read_back (h : (readV s).2 = 0)
  have HTB := Lib.hid tb
  obtain ⟨d, e1, h1⟩ : ∃ d e1, readV (textV c) = (d, e1) := ⟨_, _, rfl⟩
  obtain ⟨x, e2, h2⟩ : ∃ x e2, readV s = (x, e2) := ⟨_, _, rfl⟩
  rw [h1] at hd ts
  rw [h2] at hx hxw rb
  by_cases q1 : (checkV c).2 = 0
  · have e := h1.symm.trans (HTB.out q1)
    injection e with ed ee
    by_cases p1 : e2 = 0
    · exact back_01 c hc hw s0 s m d e1 x e2 w hv hts (by omega) hmin hsl h1 h2 hd hx hxw q1 ee ed p1 (rb p1).1 (rb p1).2.1
    · exact back_00 c hc hw s0 s m d e1 x e2 w hv hts (by omega) hmin hsl h1 h2 hd hx hxw q1 ee ed p1
  · by_cases q2 : e1 = 0
    · by_cases p1 : e2 = 0
      · exact back_11 c hc hw s0 s m d e1 x e2 w hv hts (by omega) hmin hsl h1 h2 hd hx hxw q1 q2 (ts q2) p1 (rb p1).1 (rb p1).2.1
      · exact back_10 c hc hw s0 s m d e1 x e2 w hv hts (by omega) hmin hsl h1 h2 hd hx hxw q1 q2 (ts q2) p1
    · by_cases p1 : e2 = 0
      · exact back_21 c hc hw s0 s m d e1 x e2 w hv hts (by omega) hmin hsl h1 h2 hd hx hxw q1 q2 p1 (rb p1).1 (rb p1).2.1
      · exact back_20 c hc hw s0 s m d e1 x e2 w hv hts (by omega) hmin hsl h1 h2 hd hx hxw q1 q2 p1
end Go.Proofs.YtjaoknpdomnnfaaDoor.Cf
