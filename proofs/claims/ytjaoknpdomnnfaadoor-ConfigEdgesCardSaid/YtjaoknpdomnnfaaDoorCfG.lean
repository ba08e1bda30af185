/- ConfigEdges returns true, for every config, place and number: its walk. -/
import Derived.Test.YtjaoknpdomnnfaaDoorCrC
import Derived.Test.YtjaoknpdomnnfaaDoorCfF
namespace Go.Proofs.YtjaoknpdomnnfaaDoor.Cf
open Go.RowKit Go.Proofs.YtjaoknpdomnnfaaDoor Go.Proofs.YtjaoknpdomnnfaaDoor.Nm
theorem checkF_to {d : List Int} : ∀ {n : Nat}, n ≤ 15 → (∀ j, j < n → ¬ badAt d j) → checkV d = checkF d n (15 - n)
  | 0, _, _ => rfl
  | n + 1, hn, h => by
    rw [checkF_to (n := n) (by omega) (fun j hj => h j (by omega)), checkF_step (by omega) (h n (by omega))]
theorem check_first {d : List Int} {n : Nat} (hn : n < 15) (h : ∀ j, j < n → ¬ badAt d j) (hb : badAt d n) : checkV d = ((n : Int), 10) := by
  rw [checkF_to (by omega) h, checkF_bad hn hb]
theorem check_all {d : List Int} (h : ∀ j, j < 15 → ¬ badAt d j) : checkV d = (-1, 0) := by
  rw [checkF_to (Nat.le_refl _) h]
  rfl
theorem fld_set {l : List Int} {n : Nat} (hn : n < l.length) (v : Int) (j : Nat) : fld (l.set n v) j = if j = n then v else fld l j := by
  unfold fld
  rw [List.getD_eq_getElem?_getD, List.getD_eq_getElem?_getD]
  by_cases h : j = n
  · subst h
    rw [if_pos rfl, List.getElem?_set_self hn]
    rfl
  · rw [if_neg h, List.getElem?_set_ne (fun e => h e.symm)]
/-- A small config, its Jitter and Warm 0. -/
def edgeV (c : List Int) : List Int := ((smallV c).set 7 0).set 9 0
theorem edgeV_len (c : List Int) : (edgeV c).length = 15 := by unfold edgeV; rw [List.length_set, List.length_set]; exact smallV_len c
theorem fld_edge (c : List Int) {j : Nat} (hj : j < 15) : fld (edgeV c) j = if j = 9 then 0 else if j = 7 then 0 else smallAt c j := by
  unfold edgeV
  rw [fld_set (by rw [List.length_set, smallV_len]; omega), fld_set (by rw [smallV_len]; omega)]
  by_cases h9 : j = 9
  · rw [if_pos h9, if_pos h9]
  · rw [if_neg h9, if_neg h9]
    by_cases h7 : j = 7
    · rw [if_pos h7, if_pos h7]
    · rw [if_neg h7, if_neg h7]
      unfold smallV
      rw [fld_set (by rw [smallL_len]; omega), if_neg h9]
      unfold fld
      rw [List.getD_eq_getElem?_getD, smallL_at c hj]
      rfl
theorem hi_const {j : Nat} (hj : j < 15) (h7 : j ≠ 7) (h9 : j ≠ 9) (a b a' b' : Int) : (hiL a b).getD j 0 = (hiL a' b').getD j 0 := by
  match j, hj with
  | 0, _ | 1, _ | 2, _ | 3, _ | 4, _ | 5, _ | 6, _ | 8, _ | 10, _ | 11, _ | 12, _ | 13, _ | 14, _ => rfl
  | 7, _ => exact absurd rfl h7
  | 9, _ => exact absurd rfl h9
theorem bnds {j : Nat} (hj : j < 15) (h7 : j ≠ 7) (h9 : j ≠ 9) (a b : Int) : loOf j ≤ fld leastL j ∧ fld mostL j ≤ (hiL a b).getD j 0 := by
  rw [hi_const hj h7 h9 a b 0 0]
  match j, hj with
  | 0, _ | 1, _ | 2, _ | 3, _ | 4, _ | 5, _ | 6, _ | 8, _ | 10, _ | 11, _ | 12, _ | 13, _ | 14, _ => exact ⟨by decide, by decide⟩
  | 7, _ => exact absurd rfl h7
  | 9, _ => exact absurd rfl h9
theorem edge_hi (c : List Int) {n : Nat} (hn : n < 15) (v : Int) : hiOf ((edgeV c).set n v) n = hiOf (edgeV c) n := by
  have hl : n < (edgeV c).length := by rw [edgeV_len]; exact hn
  by_cases h7 : n = 7
  · subst h7
    show fld ((edgeV c).set 7 v) 6 = fld (edgeV c) 6
    rw [fld_set hl, if_neg (by decide)]
  · by_cases h9 : n = 9
    · subst h9
      show fld ((edgeV c).set 9 v) 1 = fld (edgeV c) 1
      rw [fld_set hl, if_neg (by decide)]
    · exact hi_const hn h7 h9 _ _ _ _
theorem edge_other (c : List Int) {n : Nat} (hn : n < 15) (v : Int) {j : Nat} (hj : j < 15) (hne : j ≠ n) (h6 : n = 6 → j = 7 → 0 ≤ v) (h1 : n = 1 → j = 9 → 0 ≤ v) : ¬ badAt ((edgeV c).set n v) j := by
  have hl : n < (edgeV c).length := by rw [edgeV_len]; exact hn
  have hf : fld ((edgeV c).set n v) j = fld (edgeV c) j := by rw [fld_set hl, if_neg hne]
  unfold badAt
  rw [hf]
  by_cases h7 : j = 7
  · subst h7
    rw [show fld (edgeV c) 7 = 0 by rw [fld_edge c (by decide)]; rfl]
    have hh : hiOf ((edgeV c).set n v) 7 = fld ((edgeV c).set n v) 6 := rfl
    rw [hh, fld_set hl, show loOf 7 = 0 from rfl]
    by_cases h : 6 = n
    · rw [if_pos h]
      have := h6 h.symm rfl
      omega
    · rw [if_neg h, fld_edge c (by decide), if_neg (by decide), if_neg (by decide)]
      have := smallAt_in c (k := 6) (by decide)
      have e : fld leastL 6 = 6 := rfl
      omega
  · by_cases h9 : j = 9
    · subst h9
      rw [show fld (edgeV c) 9 = 0 by rw [fld_edge c (by decide)]; rfl]
      have hh : hiOf ((edgeV c).set n v) 9 = fld ((edgeV c).set n v) 1 := rfl
      rw [hh, fld_set hl, show loOf 9 = 0 from rfl]
      by_cases h : 1 = n
      · rw [if_pos h]
        have := h1 h.symm rfl
        omega
      · rw [if_neg h, fld_edge c (by decide), if_neg (by decide), if_neg (by decide)]
        have := smallAt_in c (k := 1) (by decide)
        have e : fld leastL 1 = 1 := rfl
        omega
    · rw [fld_edge c hj, if_neg h9, if_neg h7]
      obtain ⟨b1, b2⟩ := bnds hj h7 h9 (fld ((edgeV c).set n v) 6) (fld ((edgeV c).set n v) 1)
      have := smallAt_in c hj
      have e : hiOf ((edgeV c).set n v) j = (hiL (fld ((edgeV c).set n v) 6) (fld ((edgeV c).set n v) 1)).getD j 0 := rfl
      rw [e]
      omega
theorem edge_check (c : List Int) {n : Nat} (hn : n < 15) (v : Int) : checkV ((edgeV c).set n v) = if loOf n ≤ v ∧ v ≤ hiOf (edgeV c) n then (-1, 0) else ((n : Int), 10) := by
  have hl : n < (edgeV c).length := by rw [edgeV_len]; exact hn
  have hfn : fld ((edgeV c).set n v) n = v := by rw [fld_set hl, if_pos rfl]
  by_cases h : loOf n ≤ v ∧ v ≤ hiOf (edgeV c) n
  · rw [if_pos h]
    refine check_all fun j hj => ?_
    by_cases hjn : j = n
    · subst hjn
      unfold badAt
      rw [hfn, edge_hi c hn]
      omega
    · refine edge_other c hn v hj hjn (fun e _ => ?_) (fun e _ => ?_)
      · subst e
        have : loOf 6 = 1 := rfl
        omega
      · subst e
        have : loOf 1 = 1 := rfl
        omega
  · rw [if_neg h]
    refine check_first hn (fun j hj => ?_) ?_
    · exact edge_other c hn v (by omega) (by omega) (fun e e2 => by omega) (fun e e2 => by omega)
    · unfold badAt
      rw [hfn, edge_hi c hn]
      omega
theorem cfgA_hi (life per : Int) : cfgA (hiL life per) = #[.int .i64 1024, .int .i64 8, .int .i64 32, .int .i64 16, .int .i64 1048576, .int .i64 1048576, .int .i64 1048576, .int .i64 life, .int .i64 1048576, .int .i64 per, .int .i64 1048576, .int .i64 16, .int .i64 1048576, .int .i64 1048576, .int .i64 256] := rfl
theorem hiL_len (life per : Int) : (hiL life per).length = 15 := rfl
set_option maxRecDepth 100000 in
set_option maxHeartbeats 8000000 in
theorem walk_ConfigEdges (w : World) (c : List Int) (hc : c.length = 15) (_ : ∀ x ∈ c, (Lit.int .i64 x).wf = true) (x0 : Int) (_ : (Lit.int .i64 x0).wf = true) (v : Int) (_ : (Lit.int .i64 v).wf = true) (hv : Vars w) :
    Calls Tryd.prog 5 #[.agg (cfgA c), .int .i64 x0, .int .i64 v] w fun e w' => e = .returned (.bool true) ∧ Below w.heap.size w w' := by
  obtain ⟨n, hn, en⟩ := mod15 x0
  have hb0 := (Below.refl w.heap.size w).alloc (Nat.le_refl _) (.cells (cfgA c) 24)
  have HL := Lib.hid (lives_any _ (hv.below hb0))
  have HSM := Lib.hid (small_any c hc)
  have hel := edgeV_len c
  have hdl : ((edgeV c).set n v).length = 15 := by rw [List.length_set]; exact hel
  have sV : setV (edgeV c) (n : Int) v = (edgeV c).set n v := by unfold setV; rw [inV_nat hn]; rfl
  have HS := Lib.hid (set_any (edgeV c) hel (n : Int) v)
  rw [sV, inV_nat hn] at HS
  have HC := Lib.hid (check_any ((edgeV c).set n v) hdl)
  have hck := edge_check c hn v
  have hsl := smallV_len c
  have hev : edgeV c = ((smallV c).set 7 0).set 9 0 := rfl
  have h6 : (cfgA (edgeV c))[6]? = some (.int .i64 (fld (edgeV c) 6)) := cfgA_at (fld_at hel (by decide))
  have h1 : (cfgA (edgeV c))[1]? = some (.int .i64 (fld (edgeV c) 1)) := cfgA_at (fld_at hel (by decide))
  have hlo : (cfgA loL)[n]? = some (.int .i64 (loOf n)) := cfgA_at (fld_at (c := loL) rfl hn)
  have hhi : (cfgA (hiL (fld (edgeV c) 6) (fld (edgeV c) 1)))[n]? = some (.int .i64 (hiOf (edgeV c) n)) := cfgA_at (fld_at (c := hiL _ _) rfl hn)
  generalize fld (edgeV c) 6 = life at h6 hhi
  generalize fld (edgeV c) 1 = per at h1 hhi
  generalize hiOf (edgeV c) n = hi at hck hhi
  generalize loOf n = lo at hck hlo
  rw [hev] at h6 h1 hel hdl HS HC hck
  clear hev sV hb0 hv
  have hmid : ((smallV c).set 7 0).length = 15 := by rw [List.length_set]; exact hsl
  generalize (((smallV c).set 7 0).set 9 0).set n v = d at *
  have HLO := Lib.hid hlo
  have HHI := Lib.hid hhi
  have HCK := Lib.hid hck
  clear hck
  have H6 := Lib.hid h6
  have H1 := Lib.hid h1
  clear hlo hhi h6 h1
  generalize smallV c = sv at *
  have hsc := cfg_sz hc
  have hss := cfg_sz hsl
  have hse := cfg_sz hel
  have hsd := cfg_sz hdl
  have HZS := Lib.hid (show (cfgA c).size = (cfgA sv).size by rw [cfgA_size, cfgA_size, hc, hsl])
  have HZD := Lib.hid (show (15 : Nat) = (cfgA d).size by rw [cfgA_size, hdl])
  have hn15 : (n : Int) < 15 := by omega
  have hn0 : (0 : Int) ≤ (n : Int) := by omega
  have hw1 : IntKind.i64.wrap (n : Int) = n := IntWalk.i64_in _ ⟨by omega, by omega⟩
  go_enter Tryd.func5, Tryd.ntmps5
  go_wp2_with fail
  refine HL.out.mono ?_
  rintro e w1 ⟨rfl, b1⟩
  have HK1 := Lib.hid (show Blk w1 w.heap.size 24 (cfgA c) from (b1.block _ (by simp)).trans (heap_alloc_new _ _))
  have B1 := Lib.hid (((Below.refl w.heap.size w).alloc (Nat.le_refl _) _).trans (b1.mono (by simp)))
  clear b1 HL
  go_wp2_with (refine load_blk (by rfl) _ (by rfl) (by rfl) HK1.out _ Tryd.underlying24 rfl hsc ?_)
  refine (HSM.out w1).mono ?_
  rintro e w2 ⟨rfl, b2⟩
  have HK2 := Lib.hid (HK1.out.b b2)
  have B2 := Lib.hid (B1.out.trans (b2.mono B1.out.size))
  clear b2 HSM HK1 B1
  go_wp2_with (first | (refine store_blk (C := cfgA sv) (by rfl) _ _ (by rfl) (by rfl) (by rfl) HK2.out HZS.out hss (cfgA_one _) ?_; intro w3 hb3 ho3; have d7 := hb3.cell 7; rw [cfgA_at (fld_at hsl (k := 7) (by decide))] at d7; have z7 := hb3.frozen 7; have lt3 := hb3.lt; have hb4 := hb3.set_ 7 (.int .i64 0); rw [cfgA_set] at hb4; have d9 := hb4.cell 9; rw [cfgA_at (fld_at hmid (k := 9) (by decide))] at d9; have z9 := hb4.frozen 9; have hb5 := hb4.set_ 9 (.int .i64 0); rw [cfgA_set] at hb5; have k6 := hb5.cell 6; rw [H6.out] at k6; have k1 := hb5.cell 1; rw [H1.out] at k1; have HK5 := Lib.hid hb5; have B5 := Lib.hid (((only_below B2.out ho3 (Nat.le_refl _)).setCell (p := ⟨w.heap.size, 7, none⟩) (Nat.le_refl _) (.int .i64 0)).setCell (p := ⟨w.heap.size, 9, none⟩) (Nat.le_refl _) (.int .i64 0)); clear hb3 hb4 hb5 ho3) | (refine load_blk (by rfl) _ (by rfl) (by rfl) (by with_reducible exact ((HK5.out.alloc _).alloc _)) _ Tryd.underlying24 rfl hse ?_))
  refine (HS.out _).mono ?_
  rintro e w7 ⟨rfl, b7⟩
  have hsz5 : ((w3.setCell ⟨w.heap.size, 7, none⟩ (.int .i64 0)).setCell ⟨w.heap.size, 9, none⟩ (.int .i64 0)).heap.size = w3.heap.size := by simp
  have HKl := Lib.hid (show Blk w7 w3.heap.size 3 (cfgA loL) from (b7.block _ (by simp; omega)).trans (heap_at_old (by simp) (heap_at_new _ (by simp))))
  have HKh := Lib.hid (show Blk w7 (w3.heap.size + 1) 3 (cfgA (hiL life per)) from (b7.block _ (by simp)).trans (heap_at_new _ (by simp)))
  have B7 := Lib.hid (((B5.out.alloc (by rw [hsz5]; omega) _).alloc (by simp; omega) _).trans (b7.mono (by simp; omega)))
  have hlt7 := HKh.out.lt
  clear b7 HS HK5 B5 d7 z7 d9 z9 k6 k1
  go_wp2_with (first | (refine store_blk (C := cfgA d) (by rfl) _ _ (by rfl) (by rfl) (by rfl) (heap_at_new _ (by simp)) HZD.out hsd (cfgA_one _) ?_; intro w8 hb8 ho8; have HD8 := Lib.hid hb8; have HKl8 := Lib.hid (Blk.only (HKl.out.alloc _) ho8 (by show ¬ w3.heap.size = w7.heap.size; omega)); have HKh8 := Lib.hid (Blk.only (HKh.out.alloc _) ho8 (by show ¬ w3.heap.size + 1 = w7.heap.size; omega)); have B8 := Lib.hid (only_below (B7.out.alloc B7.out.size _) ho8 B7.out.size); clear hb8 ho8) | (refine load_blk (by rfl) _ (by rfl) (by rfl) (by with_reducible exact HD8.out) _ Tryd.underlying24 rfl hsd ?_))
  refine (HC.out w8).mono ?_
  rintro e w9 ⟨rfl, b9⟩
  have f0 := (HKl8.out.b b9).cell n
  rw [HLO.out] at f0
  have f1 := (HKh8.out.b b9).cell n
  rw [HHI.out] at f1
  have B9 := Lib.hid (B8.out.trans (b9.mono B8.out.size))
  clear b9 HC HD8 HKl8 HKh8 B8 HKl HKh B7
  rw [HCK.out]
  by_cases hin : lo ≤ v ∧ v ≤ hi
  · rw [if_pos hin]
    obtain ⟨i1, i2⟩ := hin
    go_wp2_with fail
    go_ret
    exact ⟨rfl, B9.out⟩
  · rw [if_neg hin]
    by_cases i1 : lo ≤ v
    · have i2 : ¬ v ≤ hi := fun h => hin ⟨i1, h⟩
      clear hin
      go_wp2_with fail
      go_ret
      exact ⟨rfl, B9.out⟩
    · clear hin
      go_wp2_with fail
      go_ret
      exact ⟨rfl, B9.out⟩
end Go.Proofs.YtjaoknpdomnnfaaDoor.Cf
