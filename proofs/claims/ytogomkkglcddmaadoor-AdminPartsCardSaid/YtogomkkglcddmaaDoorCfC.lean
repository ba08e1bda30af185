/- config.Field, config.Set, config.Name. -/
import Derived.Test.YtogomkkglcddmaaDoorCfB
namespace Go.Proofs.YtogomkkglcddmaaDoor.Cf
open Go.RowKit Go.Proofs.YtogomkkglcddmaaDoor Go.Proofs.YtogomkkglcddmaaDoor.Nm

theorem cfg_sz {c : List Int} (hc : c.length = 15) : (Tryd.prog.info? 40).map (·.size) = some (cfgA c).size := by rw [cfgA_size, hc]; exact cfg_size
def inV (n : Int) : Bool := decide (0 ≤ n) && decide (n < 15)
theorem inV_yes {n : Int} (h : inV n = true) : ∃ k : Nat, k < 15 ∧ n = k := by
  unfold inV at h
  simp only [Bool.and_eq_true, decide_eq_true_eq] at h
  exact ⟨n.toNat, by omega, by omega⟩
theorem inV_no {n : Int} (h : inV n = false) : n < 0 ∨ (0 ≤ n ∧ 15 ≤ n) := by
  unfold inV at h
  by_cases h0 : n < 0
  · exact .inl h0
  · simp only [Bool.and_eq_false_iff, decide_eq_false_iff_not] at h
    omega
def fieldV (c : List Int) (n : Int) : Int := if inV n then fld c n.toNat else 0
def setV (c : List Int) (n v : Int) : List Int := if inV n then c.set n.toNat v else c
theorem setV_len {c : List Int} (hc : c.length = 15) (n v : Int) : (setV c n v).length = 15 := by
  unfold setV
  split
  · rw [List.length_set]; exact hc
  · exact hc
theorem cfgA_set (c : List Int) (k : Nat) (v : Int) : (cfgA c).setIfInBounds k (.int .i64 v) = cfgA (c.set k v) := by
  unfold cfgA encI
  rw [List.setIfInBounds_toArray, List.map_set]
set_option maxRecDepth 100000 in
theorem field_any (c : List Int) (hc : c.length = 15) (n : Int) (w : World) :
    Calls Tryd.prog 29 #[.agg (cfgA c), .int .i64 n] w fun e w' => e = .returned (.tuple #[.int .i64 (fieldV c n), .bool (inV n)]) ∧ Below w.heap.size w w' := by
  have hB := Lib.hid ((Below.refl w.heap.size w).alloc (Nat.le_refl _) (.cells (cfgA c) 40))
  cases hin : inV n with
  | false =>
    have hv : fieldV c n = 0 := by unfold fieldV; rw [hin]; rfl
    rw [hv]
    rcases inV_no hin with h | ⟨h, h2⟩
    · go_enter Tryd.func29, Tryd.ntmps29
      go_wp2_with fail
      go_ret2
      exact ⟨rfl, hB.out⟩
    · go_enter Tryd.func29, Tryd.ntmps29
      go_wp2_with fail
      go_ret2
      exact ⟨rfl, hB.out⟩
  | true =>
    obtain ⟨k, hk, rfl⟩ := inV_yes hin
    have hv : fieldV c (k : Int) = fld c k := by unfold fieldV; rw [hin]; rfl
    rw [hv]
    have hk1 : (k : Int) < 15 := by omega
    have rp := fun b W => run_ptr b k hk W
    have HF := Lib.hid (cfgA_at (fld_at hc hk))
    generalize fld c k = x at HF ⊢
    clear hv hin
    go_enter Tryd.func29, Tryd.ntmps29
    go_wp2_with fail
    refine (places_any _ _).mono ?_
    rintro e w1 ⟨rfl, b1⟩
    have e0 : w1.cell? ⟨w.heap.size, k, none⟩ = some (.int .i64 x) := by
      have hb : Blk w1 w.heap.size 40 (cfgA c) := (b1.block _ (by simp)).trans (heap_alloc_new _ _)
      rw [hb.cell k]; exact HF.out
    have B1 := Lib.hid (hB.out.trans (b1.mono hB.out.size))
    clear b1
    go_wp2_with fail
    go_ret2
    exact ⟨rfl, B1.out⟩
set_option maxRecDepth 100000 in
theorem set_any (c : List Int) (hc : c.length = 15) (n v : Int) (w : World) :
    Calls Tryd.prog 27 #[.agg (cfgA c), .int .i64 n, .int .i64 v] w fun e w' => e = .returned (.tuple #[.agg (cfgA (setV c n v)), .bool (inV n)]) ∧ Below w.heap.size w w' := by
  have hsz := cfg_sz hc
  have HZ2 := Lib.hid (show (15 : Nat) = (cfgA c).size by rw [cfgA_size, hc])
  cases hin : inV n with
  | false =>
    have hv : setV c n v = c := by unfold setV; rw [hin]; rfl
    rw [hv]
    rcases inV_no hin with h | ⟨h, h2⟩
    · go_enter Tryd.func27, Tryd.ntmps27
      go_wp2_with (first | (refine load_blk (by rfl) _ (by rfl) (by rfl) (heap_at_old (by simp) (heap_at_new _ (by simp))) _ Tryd.underlying40 rfl hsz ?_) | (refine store_blk (C := cfgA c) (by rfl) _ _ (by rfl) (by rfl) (by rfl) (heap_at_new _ (by simp)) HZ2.out hsz (cfgA_one c) ?_; intro w1 hb1 ho1))
      have hB := only_below (w := w) (((Below.refl w.heap.size w).alloc (Nat.le_refl _) _).alloc (by simp) _) ho1 (by simp)
      exact bodyPost_ret (results_two Tryd.results27 rfl rfl (loadVar_blk hb1 _ Tryd.underlying40 rfl hsz)) rfl ⟨rfl, hB⟩
    · go_enter Tryd.func27, Tryd.ntmps27
      go_wp2_with (first | (refine load_blk (by rfl) _ (by rfl) (by rfl) (heap_at_old (by simp) (heap_at_new _ (by simp))) _ Tryd.underlying40 rfl hsz ?_) | (refine store_blk (C := cfgA c) (by rfl) _ _ (by rfl) (by rfl) (by rfl) (heap_at_new _ (by simp)) HZ2.out hsz (cfgA_one c) ?_; intro w1 hb1 ho1))
      have hB := only_below (w := w) (((Below.refl w.heap.size w).alloc (Nat.le_refl _) _).alloc (by simp) _) ho1 (by simp)
      exact bodyPost_ret (results_two Tryd.results27 rfl rfl (loadVar_blk hb1 _ Tryd.underlying40 rfl hsz)) rfl ⟨rfl, hB⟩
  | true =>
    obtain ⟨k, hk, rfl⟩ := inV_yes hin
    have hv : setV c (k : Int) v = c.set k v := by unfold setV; rw [hin]; rfl
    rw [hv]
    have hk1 : (k : Int) < 15 := by omega
    have rp := fun b W => run_ptr b k hk W
    have HF := Lib.hid (cfgA_at (fld_at hc hk))
    have hszs : (Tryd.prog.info? 40).map (·.size) = some (cfgA (c.set k v)).size := cfg_sz (by rw [List.length_set]; exact hc)
    have HZ3 := Lib.hid (show (15 : Nat) = (cfgA (c.set k v)).size by rw [cfgA_size, List.length_set, hc])
    clear hv hin
    go_enter Tryd.func27, Tryd.ntmps27
    go_wp2_with fail
    refine (places_any _ _).mono ?_
    rintro e w1 ⟨rfl, b1⟩
    have hb1 : Blk w1 w.heap.size 40 (cfgA c) := (b1.block _ (by simp; omega)).trans (heap_at_old (by simp) (heap_at_new _ (by simp)))
    have hb2 : Blk w1 (w.heap.size + 1) 40 _ := (b1.block _ (by simp)).trans (heap_at_new _ (by simp))
    have e0 := hb1.cell k
    rw [HF.out] at e0
    have e1 := hb1.frozen k
    have lt1 := hb1.lt
    have B1 := Lib.hid ((((Below.refl w.heap.size w).alloc (Nat.le_refl _) (.cells (cfgA c) 40)).alloc (by simp) _).trans (b1.mono (by simp; omega)))
    have hset := hb1.set_ k (.int .i64 v)
    rw [cfgA_set] at hset
    have HS := Lib.hid hset
    have H2 := Lib.hid (hb2.far (p := ⟨w.heap.size, k, none⟩) (by simp) (.int .i64 v))
    have HO := Lib.hid (((Only.refl (fun g => w.heap.size ≤ g) w1).setCell (p := ⟨w.heap.size, k, none⟩) (.inl (Nat.le_refl _)) (.int .i64 v)))
    clear b1 hb1 hb2 hset
    go_wp2_with (first | (refine load_blk (by rfl) _ (by rfl) (by rfl) HS.out _ Tryd.underlying40 rfl hszs ?_) | (refine store_blk (C := cfgA (c.set k v)) (by rfl) _ _ (by rfl) (by rfl) (by rfl) H2.out HZ3.out hszs (cfgA_one _) ?_; intro w2 hb1 ho1))
    have hB : Below w.heap.size w w2 := by
      have h1 := (Only.of_B (F := fun _ => False) B1.out).trans_new HO.out (fun i hi he => by omega)
      have h2 := h1.trans_new ho1 (fun i hi he => by omega)
      exact h2.to_B fun _ _ h => h
    exact bodyPost_ret (results_two Tryd.results27 rfl rfl (loadVar_blk hb1 _ Tryd.underlying40 rfl hszs)) rfl ⟨rfl, hB⟩
/-- The fields' names. -/
def names : List ByteArray := [bs [99, 97, 112], bs [112, 101, 114, 104, 111, 115, 116], bs [116, 111, 116, 97, 108], bs [113, 117, 101, 117, 101], bs [119, 97, 105, 116], bs [100, 114, 97, 105, 110], bs [108, 105, 102, 101], bs [106, 105, 116, 116, 101, 114], bs [105, 100, 108, 101], bs [119, 97, 114, 109], bs [119, 105, 110, 100, 111, 119], bs [101, 114, 114, 111, 114, 115], bs [113, 117, 97, 114, 97, 110, 116, 105, 110, 101], bs [98, 97, 99, 107], bs [103, 117, 97, 114, 100]]
def nameV (n : Int) : ByteArray := if inV n then names.getD n.toNat ⟨#[]⟩ else ⟨#[]⟩
def namesA : Array Value := (encS names).toArray
theorem names_at {k : Nat} (hk : k < 15) : namesA[k]? = some (.string (names.getD k ⟨#[]⟩)) := by
  match k, hk with
  | 0, _ | 1, _ | 2, _ | 3, _ | 4, _ | 5, _ | 6, _ | 7, _ | 8, _ | 9, _ | 10, _ | 11, _ | 12, _ | 13, _ | 14, _ => rfl
set_option maxRecDepth 100000 in
theorem name_any (n : Int) (w : World) :
    Calls Tryd.prog 32 #[.int .i64 n] w fun e w' => e = .returned (.string (nameV n)) ∧ Below w.heap.size w w' := by
  cases hin : inV n with
  | false =>
    have hv : nameV n = ⟨#[]⟩ := by unfold nameV; rw [hin]; rfl
    rw [hv]
    rcases inV_no hin with h | ⟨h, h2⟩
    · go_enter Tryd.func32, Tryd.ntmps32
      go_wp2_with (refine store_blk (C := namesA) (by rfl) _ _ (by rfl) (by rfl) (by rfl) (heap_at_new _ (by simp)) (by rfl) (by kernel_rfl) (by simp [namesA, names, encS, Value.oneCell']) ?_; intro w1 hb1 ho1)
      have hB := only_below (w := w) ((Below.refl w.heap.size w).alloc (Nat.le_refl _) _) ho1 (Nat.le_refl _)
      go_ret
      exact ⟨rfl, hB⟩
    · go_enter Tryd.func32, Tryd.ntmps32
      go_wp2_with (refine store_blk (C := namesA) (by rfl) _ _ (by rfl) (by rfl) (by rfl) (heap_at_new _ (by simp)) (by rfl) (by kernel_rfl) (by simp [namesA, names, encS, Value.oneCell']) ?_; intro w1 hb1 ho1)
      have hB := only_below (w := w) ((Below.refl w.heap.size w).alloc (Nat.le_refl _) _) ho1 (Nat.le_refl _)
      go_ret
      exact ⟨rfl, hB⟩
  | true =>
    obtain ⟨k, hk, rfl⟩ := inV_yes hin
    have hv : nameV (k : Int) = names.getD k ⟨#[]⟩ := by unfold nameV; rw [hin]; rfl
    rw [hv]
    have hk1 : (k : Int) < 15 := by omega
    have HF := Lib.hid (names_at hk)
    generalize names.getD k ⟨#[]⟩ = x at HF ⊢
    clear hv hin
    go_enter Tryd.func32, Tryd.ntmps32
    go_wp2_with (refine store_blk (C := namesA) (by rfl) _ _ (by rfl) (by rfl) (by rfl) (heap_at_new _ (by simp)) (by rfl) (by kernel_rfl) (by simp [namesA, names, encS, Value.oneCell']) ?_; intro w1 hb1 ho1; have e0 := hb1.cell k; rw [HF.out] at e0)
    have hB := only_below (w := w) ((Below.refl w.heap.size w).alloc (Nat.le_refl _) _) ho1 (Nat.le_refl _)
    go_ret
    exact ⟨rfl, hB⟩
end Go.Proofs.YtogomkkglcddmaaDoor.Cf
