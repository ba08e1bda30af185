/- The document's example (hostlerlaw08's lives). -/
import Derived.Test.YtogomkkglcddmaaDoorCfP
namespace Go.Proofs.YtogomkkglcddmaaDoor.Cf
open Go.RowKit Go.Proofs.YtogomkkglcddmaaDoor Go.Proofs.YtogomkkglcddmaaDoor.Nm
def exCfg : List Int := [64, 2, 4, 3, 10, 20, 100, 10, 30, 1, 50, 3, 40, 5, 2]
def exText : ByteArray := ⟨#[54, 52, 32, 50, 32, 52, 32, 51, 32, 49, 48, 32, 50, 48, 32, 49, 48, 48, 32, 49, 48, 32, 51, 48, 32, 49, 32, 53, 48, 32, 51, 32, 52, 48, 32, 53, 32, 50]⟩
theorem ex_text : textV exCfg = exText := by
  unfold textV joinV exText bs
  rw [digs_list]
  simp [exCfg, Lib.itoa, Lib.decDigits, Lib.join, List.intercalate]
theorem ex_check : checkV exCfg = (-1, 0) := by decide
theorem ex_read : readV exText = (exCfg, 0) := by
  rw [← ex_text]
  exact text_back rfl (by rw [ex_check])
set_option maxRecDepth 100000 in
set_option maxHeartbeats 2000000 in
theorem lives_any (w : World) (hv : Vars w) : Calls Tryd.prog 21 #[] w fun e w' => e = .returned (.bool true) ∧ Below w.heap.size w w' := by
  have HV := Lib.hid hv
  have HR := Lib.hid (read_any exText (by decide) w hv)
  rw [ex_read] at HR
  unfold exText at HR
  have hsz : (Tryd.prog.info? 40).map (·.size) = some (cfgA exCfg).size := cfg_sz rfl
  clear hv
  go_enter Tryd.func21, Tryd.ntmps21
  go_wp2_with fail
  refine HR.out.mono ?_
  rintro e w1 ⟨rfl, b1⟩
  have B1 := Lib.hid b1
  clear b1 HR
  go_wp2_with (first | (refine load_blk (by rfl) _ (by rfl) (by rfl) HB2.out _ Tryd.underlying40 rfl hsz ?_) | (refine store_blk (C := cfgA exCfg) (by rfl) _ _ (by rfl) (by rfl) (by rfl) (heap_at_new _ (by simp)) (by rfl) hsz (cfgA_one _) ?_; intro w2 hb2 ho2; have HB2 := Lib.hid hb2; have B2 := Lib.hid (only_below (B1.out.alloc B1.out.size _) ho2 B1.out.size); clear hb2 ho2))
  have HC := Lib.hid (check_any exCfg rfl w2)
  rw [ex_check] at HC
  refine HC.out.mono ?_
  rintro e w3 ⟨rfl, b3⟩
  have HB3 := Lib.hid (HB2.out.b b3)
  have B3 := Lib.hid (B2.out.trans (b3.mono B2.out.size))
  have e14 := HB3.out.cell 14
  rw [show (cfgA exCfg)[14]? = some (.int .i64 2) from rfl] at e14
  have HT := Lib.hid (text_any exCfg rfl (by decide) w3 (HV.out.below B3.out))
  rw [ex_text] at HT
  unfold exText at HT
  clear b3 HC HB2 B2 B1
  go_wp2_with (refine load_blk_g (by rfl) _ (by rfl) (by rfl) HB3.out _ Tryd.underlying40 rfl hsz ?_)
  refine HT.out.mono ?_
  rintro e w4 ⟨rfl, b4⟩
  have B4 := Lib.hid (B3.out.trans (b4.mono B3.out.size))
  clear b4 HT
  go_wp2_with fail
  refine (name_any 14 w4).mono ?_
  rw [show nameV 14 = ⟨#[103, 117, 97, 114, 100]⟩ from rfl]
  rintro e w5 ⟨rfl, b5⟩
  have B5 := Lib.hid (B4.out.trans (b5.mono B4.out.size))
  clear b5
  go_wp2_with fail
  go_ret
  exact ⟨rfl, B5.out⟩
end Go.Proofs.YtogomkkglcddmaaDoor.Cf
