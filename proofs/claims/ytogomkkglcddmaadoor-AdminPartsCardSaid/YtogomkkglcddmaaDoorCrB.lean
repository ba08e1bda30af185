/- The reference's lists of a config's numbers (hostlerref08: List, Of). -/
import Derived.Test.YtogomkkglcddmaaDoorCfP
namespace Go.Proofs.YtogomkkglcddmaaDoor.Cf
open Go.RowKit Go.Proofs.YtogomkkglcddmaaDoor Go.Proofs.YtogomkkglcddmaaDoor.Nm
/-- A list of a config's numbers, of the call's own. -/
def ListAt (w w' : World) (c : List Int) (v : Value) : Prop := ∃ g cc, v = .slice (some ⟨g, 0, none⟩) 15 cc ∧ 15 ≤ cc ∧ w.heap.size ≤ g ∧ Blk w' g 3 (cfgA c)
set_option maxRecDepth 100000 in
set_option maxHeartbeats 2000000 in
theorem list_any (c : List Int) (hc : c.length = 15) (w : World) :
    Calls Tryd.prog 30 #[.agg (cfgA c)] w fun e w' => ∃ v, e = .returned v ∧ ListAt w w' c v ∧ Below w.heap.size w w' := by
  obtain ⟨a0, a1, a2, a3, a4, a5, a6, a7, a8, a9, a10, a11, a12, a13, a14, rfl⟩ := fifteen hc
  have HB : Hid (∀ o1 o2, Below w.heap.size w ((w.alloc o1).alloc o2)) := Lib.hid fun o1 o2 => ((Below.refl _ w).alloc (Nat.le_refl _) _).alloc (by simp) _
  have HN : Hid (∀ o1, Blk ((w.alloc o1).alloc (.cells (cfgA [a0, a1, a2, a3, a4, a5, a6, a7, a8, a9, a10, a11, a12, a13, a14]) 3)) (w.heap.size + 1) 3 (cfgA [a0, a1, a2, a3, a4, a5, a6, a7, a8, a9, a10, a11, a12, a13, a14])) := Lib.hid fun o1 => heap_at_new _ (by simp)
  simp only [cfgA, encI, List.map_cons, List.map_nil] at HN ⊢
  go_enter Tryd.func30, Tryd.ntmps30
  go_wp2_with fail
  go_ret
  exact ⟨_, rfl, ⟨_, _, rfl, Nat.le_refl _, Nat.le_succ _, by simpa [cfgA, encI] using HN.out _⟩, HB.out _ _⟩
set_option maxRecDepth 100000 in
set_option maxHeartbeats 4000000 in
theorem of_any (c : List Int) (hc : c.length = 15) (g o cc : Nat) (w : World) (hl : ∀ (j : Nat) (x : Int), c[j]? = some x → w.cell? ⟨g, o + j, none⟩ = some (.int .i64 x)) :
    Calls Tryd.prog 34 #[.slice (some ⟨g, o, none⟩) 15 cc] w fun e w' => e = .returned (.agg (cfgA c)) ∧ Below w.heap.size w w' := by
  have HS := Lib.hid (cfg_sz hc)
  have HO := Lib.hid (cfgA_one c)
  obtain ⟨a0, a1, a2, a3, a4, a5, a6, a7, a8, a9, a10, a11, a12, a13, a14, rfl⟩ := fifteen hc
  have q := fun j x h => hl j x h
  have e0 := q 0 _ rfl; have e1 := q 1 _ rfl; have e2 := q 2 _ rfl; have e3 := q 3 _ rfl; have e4 := q 4 _ rfl; have e5 := q 5 _ rfl; have e6 := q 6 _ rfl; have e7 := q 7 _ rfl
  have e8 := q 8 _ rfl; have e9 := q 9 _ rfl; have e10 := q 10 _ rfl; have e11 := q 11 _ rfl; have e12 := q 12 _ rfl; have e13 := q 13 _ rfl; have e14 := q 14 _ rfl
  have hg := World.block_lt_of_cell? w _ e0
  have hg2 : g < w.heap.size := hg
  rw [Nat.add_zero] at e0
  clear q hl hg
  obtain ⟨W2, hW⟩ : ∃ W2, w.alloc (.cells #[.int .i64 0, .int .i64 0, .int .i64 0, .int .i64 0, .int .i64 0, .int .i64 0, .int .i64 0, .int .i64 0, .int .i64 0, .int .i64 0, .int .i64 0, .int .i64 0, .int .i64 0, .int .i64 0, .int .i64 0] 40) = W2 := ⟨_, rfl⟩
  have hf : ∀ (a : Addr), a.block < w.heap.size → ∀ v, w.cell? a = some v → W2.cell? a = some v := fun a ha v h => by rw [← hW, World.cell?_alloc_lt _ _ _ ha]; exact h
  have f0 := hf ⟨g, o, none⟩ hg2 _ e0
  have f1 := hf ⟨g, o + 1, none⟩ hg2 _ e1
  have f2 := hf ⟨g, o + 2, none⟩ hg2 _ e2
  have f3 := hf ⟨g, o + 3, none⟩ hg2 _ e3
  have f4 := hf ⟨g, o + 4, none⟩ hg2 _ e4
  have f5 := hf ⟨g, o + 5, none⟩ hg2 _ e5
  have f6 := hf ⟨g, o + 6, none⟩ hg2 _ e6
  have f7 := hf ⟨g, o + 7, none⟩ hg2 _ e7
  have f8 := hf ⟨g, o + 8, none⟩ hg2 _ e8
  have f9 := hf ⟨g, o + 9, none⟩ hg2 _ e9
  have f10 := hf ⟨g, o + 10, none⟩ hg2 _ e10
  have f11 := hf ⟨g, o + 11, none⟩ hg2 _ e11
  have f12 := hf ⟨g, o + 12, none⟩ hg2 _ e12
  have f13 := hf ⟨g, o + 13, none⟩ hg2 _ e13
  have f14 := hf ⟨g, o + 14, none⟩ hg2 _ e14
  have HN := Lib.hid (show Blk W2 w.heap.size 40 #[.int .i64 0, .int .i64 0, .int .i64 0, .int .i64 0, .int .i64 0, .int .i64 0, .int .i64 0, .int .i64 0, .int .i64 0, .int .i64 0, .int .i64 0, .int .i64 0, .int .i64 0, .int .i64 0, .int .i64 0] from hW ▸ Blk.new w _ _)
  have HB2 := Lib.hid (show Below w.heap.size w W2 from hW ▸ (Below.refl w.heap.size w).alloc (Nat.le_refl _) _)
  clear e0 e1 e2 e3 e4 e5 e6 e7 e8 e9 e10 e11 e12 e13 e14 hf
  go_enter Tryd.func34, Tryd.ntmps34
  go_wp2_with fail
  clear hW hg2
  go_still_tail 46, (by kernel_rfl)
  refine store_blk (C := cfgA [a0, a1, a2, a3, a4, a5, a6, a7, a8, a9, a10, a11, a12, a13, a14]) (by rfl) _ _ (by rfl) (by rfl) (by rfl) (Blk.drew HN.out) (by rfl) HS.out HO.out ?_
  intro w1 hb1 ho1
  have hB := only_below HB2.out.drew ho1 (Nat.le_refl _)
  have hL := loadVar_blk hb1 _ Tryd.underlying40 rfl HS.out
  have HB := Lib.hid hB
  clear hB ho1
  go_wp2
  exact bodyPost_ret (results_cell Tryd.results34 rfl hL) rfl ⟨rfl, HB.out⟩
end Go.Proofs.YtogomkkglcddmaaDoor.Cf
