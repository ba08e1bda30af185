/- ConfigReads returns true, for every text: its walk. -/
import Derived.Test.YtjaoknpdomnnfaaDoorCrR
import Derived.Test.YtjaoknpdomnnfaaDoorCfBk
namespace Go.Proofs.YtjaoknpdomnnfaaDoor.Cf
open Go.RowKit Go.Proofs.YtjaoknpdomnnfaaDoor Go.Proofs.YtjaoknpdomnnfaaDoor.Nm
set_option maxRecDepth 100000 in
set_option maxHeartbeats 4000000 in
theorem walk_ConfigReads (w : World) (s0 : ByteArray) (_hml : s0.size ≤ maxLen) (hv : Vars w) :
    Calls Tryd.prog 3 #[.string s0] w fun e w' => e = .returned (.bool true) ∧ Below w.heap.size w w' := by
  obtain ⟨m, s, hmin, hsl, hs⟩ := cut_facts 250 s0
  replace hmin : ∀ W ats ty, (Builtin.min_ ats ty #[.int .i64 (s0.size : Int), .int .i64 250]).run Tryd.prog W = .ok (.int .i64 m) W := hmin
  have hx := readV_len s
  have HV := Lib.hid hv
  have HL := Lib.hid (lives_any w hv)
  have HR1 := Lib.hid (read_any s (by omega))
  have HR2 := Lib.hid (refread_any s (by omega))
  unfold CfgPost at HR1 HR2
  obtain ⟨x, er, h1⟩ : ∃ x er, readV s = (x, er) := ⟨_, _, rfl⟩
  rw [h1] at HR1 HR2 hx
  dsimp only at HR1 HR2 hx
  have hsx := cfg_sz hx
  have HZX := Lib.hid (show (15 : Nat) = (cfgA x).size by rw [cfgA_size, hx])
  have HEQ := fun dd W => eqCfg dd W hx hx
  rw [show decide (x = x) = true from decide_eq_true rfl] at HEQ
  have te : (er == er) = true := beq_self_eq_true er
  clear hv h1 hs _hml
  go_enter Tryd.func3, Tryd.ntmps3
  go_wp2_with fail
  refine HL.out.mono ?_
  rintro e w1 ⟨rfl, b1⟩
  have B1 := Lib.hid b1
  clear b1 HL
  go_wp2_with fail
  refine (HR1.out w1 (HV.out.below B1.out)).mono ?_
  rintro e w2 ⟨rfl, b2⟩
  have B2 := Lib.hid (B1.out.trans (b2.mono B1.out.size))
  clear b2 HR1 B1
  go_wp2_with (refine store_blk (C := cfgA x) (by rfl) _ _ (by rfl) (by rfl) (by rfl) (heap_at_new _ (by simp)) HZX.out hsx (cfgA_one _) ?_; intro w3 hb3 ho3; have HX3 := Lib.hid hb3; have B3 := Lib.hid (only_below (B2.out.alloc B2.out.size _) ho3 B2.out.size); clear hb3 ho3)
  refine (HR2.out w3).mono ?_
  rintro e w4 ⟨rfl, b4⟩
  have HX4 := Lib.hid (HX3.out.b b4)
  have B4 := Lib.hid (B3.out.trans (b4.mono B3.out.size))
  have hlt4 := HX4.out.lt
  clear b4 HR2 HX3 B3 B2
  go_wp2_with (first | (refine store_blk (C := cfgA x) (by rfl) _ _ (by rfl) (by rfl) (by rfl) (heap_at_new _ (by simp)) HZX.out hsx (cfgA_one _) ?_; intro w5 hb5 ho5; have HY5 := Lib.hid hb5; have HX5 := Lib.hid (Blk.only (HX4.out.alloc _) ho5 (by show ¬ w2.heap.size = w4.heap.size; omega)); have B5 := Lib.hid (only_below (B4.out.alloc B4.out.size _) ho5 B4.out.size); clear hb5 ho5) | (refine load_blk (by rfl) _ (by rfl) (by rfl) (by with_reducible exact HX5.out) _ Tryd.underlying24 rfl hsx ?_) | (refine load_blk_g (by rfl) _ (by rfl) (by rfl) (by with_reducible exact HX5.out) _ Tryd.underlying24 rfl hsx ?_) | (refine load_blk (by rfl) _ (by rfl) (by rfl) (by with_reducible exact HY5.out) _ Tryd.underlying24 rfl hsx ?_) | (refine load_blk_g (by rfl) _ (by rfl) (by rfl) (by with_reducible exact HY5.out) _ Tryd.underlying24 rfl hsx ?_))
  go_ret
  exact ⟨rfl, B5.out⟩
end Go.Proofs.YtjaoknpdomnnfaaDoor.Cf
