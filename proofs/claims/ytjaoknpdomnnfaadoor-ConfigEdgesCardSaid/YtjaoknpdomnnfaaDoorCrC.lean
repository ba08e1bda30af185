/- A small config made of any (hostlerref08.Small). -/
import Derived.Test.YtjaoknpdomnnfaaDoorCrB
import Derived.Test.YtjaoknpdomnnfaaDoorCfF
import Derived.Deep.RegionHeld3
namespace Go.Proofs.YtjaoknpdomnnfaaDoor.Cf
open Go.RowKit Go.Proofs.YtjaoknpdomnnfaaDoor Go.Proofs.YtjaoknpdomnnfaaDoor.Nm
def mostL : List Int := [40, 3, 6, 4, 12, 12, 30, 6, 12, 2, 30, 3, 15, 6, 5]
def leastL : List Int := [8, 1, 1, 0, 1, 1, 6, 0, 1, 0, 1, 1, 1, 1, 0]
def smallAt (c : List Int) (k : Nat) : Int := fld leastL k + (IntKind.u64.wrap (fld c k)).tmod (fld mostL k - fld leastL k + 1)
def smallL (c : List Int) : List Int := (List.range 15).map (smallAt c)
def smallV (c : List Int) : List Int := (smallL c).set 9 (if fld (smallL c) 1 < fld (smallL c) 9 then fld (smallL c) 1 else fld (smallL c) 9)
theorem smallL_len (c : List Int) : (smallL c).length = 15 := by simp [smallL]
theorem smallV_len (c : List Int) : (smallV c).length = 15 := by simp [smallV, smallL]
theorem smallL_at (c : List Int) {k : Nat} (hk : k < 15) : (smallL c)[k]? = some (smallAt c k) := by
  simp [smallL, hk]
theorem spans {k : Nat} (hk : k < 15) : 0 ≤ fld leastL k ∧ fld leastL k ≤ fld mostL k ∧ fld mostL k ≤ 100 := by
  match k, hk with
  | 0, _ | 1, _ | 2, _ | 3, _ | 4, _ | 5, _ | 6, _ | 7, _ | 8, _ | 9, _ | 10, _ | 11, _ | 12, _ | 13, _ | 14, _ => decide
theorem rem_in (x s : Int) (hs : 0 < s) : 0 ≤ (IntKind.u64.wrap x).tmod s ∧ (IntKind.u64.wrap x).tmod s < s := by
  have h0 : 0 ≤ IntKind.u64.wrap x := by rw [IntKind.wrap_u64]; exact Int.emod_nonneg _ (by decide)
  rw [Int.tmod_eq_emod_of_nonneg h0]
  exact ⟨Int.emod_nonneg _ (by omega), Int.emod_lt_of_pos _ hs⟩
theorem smallAt_in (c : List Int) {k : Nat} (hk : k < 15) : fld leastL k ≤ smallAt c k ∧ smallAt c k ≤ fld mostL k := by
  obtain ⟨h0, h1, h2⟩ := spans hk
  have := rem_in (fld c k) (fld mostL k - fld leastL k + 1) (by omega)
  unfold smallAt
  omega
theorem take_small (c : List Int) {k : Nat} (hk : k < 15) : encI ((smallL c).take (k + 1)) = encI ((smallL c).take k) ++ [.int .i64 (smallAt c k)] := by
  rw [List.take_add_one, smallL_at c hk, encI_append]
  rfl
set_option maxRecDepth 100000 in
set_option maxHeartbeats 4000000 in
theorem small_any (c : List Int) (hc : c.length = 15) (w : World) :
    Calls Tryd.prog 19 #[.agg (cfgA c)] w fun e w' => e = .returned (.agg (cfgA (smallV c))) ∧ Below w.heap.size w w' := by
  obtain ⟨i0, hi, hz0, hz1, hz2⟩ := info_parts int_info
  have hsc := cfg_sz hc
  have HLI := Lib.hid (list_any c hc)
  have HOF := Lib.hid (fun g o cc W h => of_any (smallL c) (smallL_len c) g o cc W h)
  obtain ⟨sv, hsv⟩ : ∃ sv, smallV c = sv := ⟨_, rfl⟩
  rw [hsv]
  have HSM := Lib.hid hsv
  clear hsv
  go_enter Tryd.func19, Tryd.ntmps19
  go_wp2_with (refine load_blk (by rfl) _ (by rfl) (by rfl) (heap_at_old (by simp) (heap_at_new _ (by simp))) _ Tryd.underlying24 rfl hsc ?_)
  rw [← zerosA]
  have HB2 := Lib.hid ((((Below.refl w.heap.size w).alloc (Nat.le_refl _) (.cells (cfgA c) 24)).alloc (by simp) (.cells (cfgA zeros) 24)))
  have HR2 := Lib.hid (show Blk ((w.alloc (.cells (cfgA c) 24)).alloc (.cells (cfgA zeros) 24)) (w.heap.size + 1) 24 (cfgA zeros) from heap_at_new _ (by simp))
  generalize hw2 : ((w.alloc (.cells (cfgA c) 24)).alloc (.cells (cfgA zeros) 24)) = w2 at HB2 HR2
  clear hw2
  refine (HLI.out w2).mono ?_
  rintro e w3 ⟨v, rfl, ⟨g, cc, rfl, hcc, hg, hlb⟩, b3⟩
  have HR3 := Lib.hid (HR2.out.b b3)
  have HL3 := Lib.hid hlb
  have HB3 := Lib.hid (HB2.out.trans (b3.mono HB2.out.size))
  have hs2 : w.heap.size + 1 < w2.heap.size := HR2.out.lt
  have hg3 : g < w3.heap.size := hlb.lt
  clear b3 hlb HB2 HR2 HLI
  obtain ⟨w5, hw5⟩ : ∃ w5, (w3.alloc (.cells #[.int .i64 40, .int .i64 3, .int .i64 6, .int .i64 4, .int .i64 12, .int .i64 12, .int .i64 30, .int .i64 6, .int .i64 12, .int .i64 2, .int .i64 30, .int .i64 3, .int .i64 15, .int .i64 6, .int .i64 5] 3)).alloc (.cells #[.int .i64 8, .int .i64 1, .int .i64 1, .int .i64 0, .int .i64 1, .int .i64 1, .int .i64 6, .int .i64 0, .int .i64 1, .int .i64 0, .int .i64 1, .int .i64 1, .int .i64 1, .int .i64 1, .int .i64 0] 3) = w5 := ⟨_, rfl⟩
  have HMo := Lib.hid (show Blk w5 w3.heap.size 3 (cfgA mostL) from hw5 ▸ (heap_at_old (by simp) (heap_at_new _ (by simp))))
  have HLe := Lib.hid (show Blk w5 (w3.heap.size + 1) 3 (cfgA leastL) from hw5 ▸ (heap_at_new _ (by simp)))
  have hb5 : Below w3.heap.size w3 w5 := hw5 ▸ (((Below.refl w3.heap.size w3).alloc (Nat.le_refl _) _).alloc (by simp) _)
  have HC5 := Lib.hid (HL3.out.b hb5)
  have HR5 := Lib.hid (HR3.out.b hb5)
  have HB5 := Lib.hid (HB3.out.trans (hb5.mono HB3.out.size))
  clear hb5 HR3 HL3 HB3
  go_wp2_with fail
  clear hw5
  go_loopw [6, 7] (fun sl i wr => ∃ (k : Nat) (A' : Option Addr) (c' : Nat), k ≤ 15 ∧ sl = .slice A' k c' ∧ i = .int .i64 k ∧ Sl wr 3 1 (.slice A' k c') k (encI ((smallL c).take k)) ∧ (∀ g, Value.ownBlock (.slice A' k c') = some g → w5.heap.size ≤ g) ∧ Below w5.heap.size w5 wr) (fun _ i _ => 15 - (intOf i).toNat)
  case atStart => exact ⟨0, none, 0, by omega, rfl, rfl, Sl.nil _ _ _, fun g hg => by simp [Value.ownBlock] at hg, Below.refl _ _⟩
  case round =>
    obtain ⟨k, A', c', hk, rfl, rfl, hS, hO, hb⟩ := hrel
    have HS := Lib.hid hS
    have HO := Lib.hid hO
    have HB := Lib.hid hb
    clear hS hO
    by_cases hlt : k < 15
    · have hk1 : (k : Int) < 15 := by omega
      have hk0 : (0 : Int) ≤ (k : Int) := by omega
      have e0 := (HC5.out.b hb).cell k
      rw [cfgA_at (fld_at hc hlt)] at e0
      have e1 := (HMo.out.b hb).cell k
      rw [cfgA_at (fld_at (c := mostL) rfl hlt)] at e1
      have e2 := (HLe.out.b hb).cell k
      rw [cfgA_at (fld_at (c := leastL) rfl hlt)] at e2
      have q0 := cfgA_at (fld_at hc hlt)
      have q1 := cfgA_at (fld_at (c := mostL) rfl hlt)
      have q2 := cfgA_at (fld_at (c := leastL) rfl hlt)
      obtain ⟨s0, s1, s2⟩ := spans hlt
      obtain ⟨r0, r1⟩ := rem_in (fld c k) (fld mostL k - fld leastL k + 1) (by omega)
      have hts := take_small c hlt
      unfold smallAt at hts
      have hne : (fld mostL k - fld leastL k + 1) ≠ 0 := by omega
      have hm1 : IntKind.i64.wrap (fld mostL k - fld leastL k) = fld mostL k - fld leastL k := IntWalk.i64_in _ ⟨by omega, by omega⟩
      have hm2 : IntKind.i64.wrap (fld mostL k - fld leastL k + 1) = fld mostL k - fld leastL k + 1 := IntWalk.i64_in _ ⟨by omega, by omega⟩
      have hm3 : IntKind.u64.wrap (fld mostL k - fld leastL k + 1) = fld mostL k - fld leastL k + 1 := by rw [IntKind.wrap_u64]; omega
      generalize fld leastL k = le at *
      generalize fld mostL k = mo at *
      generalize fld c k = x at *
      obtain ⟨r, er⟩ : ∃ r, (IntKind.u64.wrap x).tmod (mo - le + 1) = r := ⟨_, rfl⟩
      rw [er] at r0 r1 hts
      have hm4 : IntKind.i64.wrap r = r := IntWalk.i64_in _ ⟨by omega, by omega⟩
      have hm5 : IntKind.i64.wrap (le + r) = le + r := IntWalk.i64_in _ ⟨by omega, by omega⟩
      have hm6 : IntKind.u64.wrap r = r := by rw [IntKind.wrap_u64]; omega
      have HKC : Hid (∀ W, Below w5.heap.size w5 W → W.cell? ⟨w3.heap.size + 1, k, none⟩ = some (.int .i64 le) ∧ W.cell? ⟨g, k, none⟩ = some (.int .i64 x) ∧ W.cell? ⟨w3.heap.size, k, none⟩ = some (.int .i64 mo)) := Lib.hid fun W hW => ⟨((HLe.out.b hW).cell k).trans q2, ((HC5.out.b hW).cell k).trans q0, ((HMo.out.b hW).cell k).trans q1⟩
      have HTS := Lib.hid hts
      clear hts hb q0 q1 q2 e0 e1 e2
      go_wp2_with fail
      have hsw := HB.out.size
      go_region_held3 (fun W => W.cell? ⟨w3.heap.size + 1, k, none⟩ = some (.int .i64 le) ∧ W.cell? ⟨g, k, none⟩ = some (.int .i64 x) ∧ W.cell? ⟨w3.heap.size, k, none⟩ = some (.int .i64 mo)) ((refine HKC.out _ ?_; (repeat (first | with_reducible assumption | with_reducible exact HB.out | with_reducible exact Below.refl _ _ | with_reducible refine Below.drew ?_ | with_reducible refine below_drewN ?_ _ | with_reducible refine Below.alloc ?_ (by first | exact Nat.le_refl _ | assumption | omega | (simp; omega)) _ | with_reducible refine below_storeRow ?_ (by (rw [hzc]; first | with_reducible assumption | exact hasRow_new _ _ rfl)) (by first | exact Nat.le_refl _ | assumption)))))
        ((refine step_append_sl _ (by rfl) (.tmp 17) (.tmp 41) 35 (by rfl) 3 i0 _ 1 8 Tryd.underlying35 hi hz0 hz1 hz2 rfl (by decide) (.slice A' k c') k (encI ((smallL c).take k)) (by rfl) ?hs ⟨_, 0, none⟩ 1 1 [.int .i64 (le + r)] (by rfl) rfl ?hn ?h1 ?hm ?hb ?_; (case hs => repeat (first | exact HS.out | refine Sl.alloc ?_ _ | refine Sl.drew ?_ | refine Sl.drewN ?_ _)); (case hn => exact news1 (by simp)); (case h1 => simp [Value.oneCell']); (case hm => unfold maxLen; omega); (case hb => omega); intro A2 c2 w6 hs2' ho2 hl2; have HO3 := Lib.hid (own_later hl2 HO.out (by simp; omega)); replace HB := Lib.hid (B_only (by (repeat (first | with_reducible assumption | with_reducible exact HB.out | with_reducible exact Below.refl _ _ | with_reducible refine Below.drew ?_ | with_reducible refine below_drewN ?_ _ | with_reducible refine Below.alloc ?_ (by first | exact Nat.le_refl _ | assumption | omega | (simp; omega)) _ | with_reducible refine below_storeRow ?_ (by (rw [hzc]; first | with_reducible assumption | exact hasRow_new _ _ rfl)) (by first | exact Nat.le_refl _ | assumption)))) ho2 HO.out); have HS3 := Lib.hid hs2'; clear hs2' ho2 hl2))
      go_wp2_with fail
      go_roundw
      case rel => exact ⟨k + 1, A2, c2, by omega, rfl, by push_cast; rfl, by rw [HTS.out]; exact HS3.out, HO3.out, HB.out⟩
      case measure => simp [intOf]; omega
    · obtain rfl : k = 15 := by omega
      rw [show (smallL c).take 15 = smallL c by rw [List.take_of_length_le (by rw [smallL_len]; omega)]] at HS
      obtain ⟨g', o', rfl, hg', hcl⟩ := HS.out.cells (by omega)
      have HCL := Lib.hid (HOF.out g' o' c' wr (fun j x hj => hcl j (.int .i64 x) (by simp [encI, hj])))
      have HRr := Lib.hid (HR5.out.b hb)
      have HBr := Lib.hid (HB5.out.trans (hb.mono HB5.out.size))
      have h1 := smallL_at c (k := 1) (by omega)
      have h9 := smallL_at c (k := 9) (by omega)
      have f1 : fld (smallL c) 1 = smallAt c 1 := by unfold fld; rw [List.getD_eq_getElem?_getD, h1]; rfl
      have f9 : fld (smallL c) 9 = smallAt c 9 := by unfold fld; rw [List.getD_eq_getElem?_getD, h9]; rfl
      have hsm : smallV c = (smallL c).set 9 (if smallAt c 1 < smallAt c 9 then smallAt c 1 else smallAt c 9) := by unfold smallV; rw [f1, f9]
      have hss := HSM.out.symm.trans hsm
      clear hsm HSM
      have c1 := cfgA_at h1
      have c9 := cfgA_at h9
      have hsl : (Tryd.prog.info? 24).map (·.size) = some (cfgA (smallL c)).size := cfg_sz (smallL_len c)
      have hlen := smallL_len c
      clear h1 h9 f1 f9 hcl hb
      generalize smallL c = l at *
      generalize smallAt c 1 = x1 at *
      generalize smallAt c 9 = x9 at *
      have HZL := Lib.hid (show (15 : Nat) = (cfgA l).size by rw [cfgA_size, hlen])
      obtain ⟨m, hm⟩ : ∃ m, (if x1 < x9 then x1 else x9) = m := ⟨_, rfl⟩
      have hmin : ∀ W ats ty, (Builtin.min_ ats ty #[.int .i64 x9, .int .i64 x1]).run Tryd.prog W = .ok (.int .i64 m) W := fun W ats ty => by
        rw [← hm]
        simp only [Builtin.min_, List.foldlM_cons, List.foldlM_nil, Builtin.min2]
        rfl
      rw [hm] at hss
      subst hss
      clear hm
      have hsl2 : (Tryd.prog.info? 24).map (·.size) = some (cfgA (l.set 9 m)).size := cfg_sz (by rw [List.length_set]; exact hlen)
      have HZM := Lib.hid (show (15 : Nat) = (cfgA (l.set 9 m)).size by rw [cfgA_size, List.length_set, hlen])
      clear HMo HLe HC5 HR5 HB5 HS HO HB
      go_wp2_with fail
      refine HCL.out.mono ?_
      rintro e w6 ⟨rfl, b6⟩
      have HR6 := Lib.hid (HRr.out.b b6)
      have HB6 := Lib.hid (HBr.out.trans (b6.mono HBr.out.size))
      have hlt6 := HR6.out.lt
      clear b6 HCL HRr HBr
      go_wp2_with (first | (refine store_blk (C := cfgA l) (by rfl) _ _ (by rfl) (by rfl) (by rfl) (heap_at_new _ (by simp)) HZL.out hsl (cfgA_one _) ?_; intro w7 hb7 ho7; have d1 := hb7.cell 1; rw [c1] at d1; have d9 := hb7.cell 9; rw [c9] at d9; have d2 := hb7.frozen 9; have d3 := hb7.lt; have h7 := hb7.set_ 9 (.int .i64 m); rw [cfgA_set] at h7; have H7 := Lib.hid h7; have R7 := Lib.hid ((Blk.only (HR6.out.alloc _) ho7 (by show ¬ w.heap.size + 1 = w6.heap.size; omega)).far (p := ⟨w6.heap.size, 9, none⟩) (by show w.heap.size + 1 ≠ w6.heap.size; omega) (.int .i64 m)); have B7 := Lib.hid ((only_below (HB6.out.alloc HB6.out.size _) ho7 HB6.out.size).setCell (p := ⟨w6.heap.size, 9, none⟩) HB6.out.size (.int .i64 m)); clear hb7 ho7 h7) | (refine load_blk (by rfl) _ (by rfl) (by rfl) H7.out _ Tryd.underlying24 rfl hsl2 ?_) | (refine store_blk (C := cfgA (l.set 9 m)) (by rfl) _ _ (by rfl) (by rfl) (by rfl) R7.out HZM.out hsl2 (cfgA_one _) ?_; intro w8 hb8 ho8))
      exact bodyPost_ret (results_cell Tryd.results19 rfl (loadVar_blk hb8 _ Tryd.underlying24 rfl hsl2)) rfl ⟨rfl, only_below B7.out ho8 (by omega)⟩
end Go.Proofs.YtjaoknpdomnnfaaDoor.Cf
