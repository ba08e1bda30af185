/- trace.Line of a dial, a client's or a conn's frame; of every output. -/
import Derived.Test.YthalpaggcdpcbaaDoorTrL
namespace Go.Proofs.YthalpaggcdpcbaaDoor.Tr
open Go.RowKit Go.Proofs.YthalpaggcdpcbaaDoor Go.Proofs.YthalpaggcdpcbaaDoor.Nm Go.Proofs.YthalpaggcdpcbaaDoor.Cf
theorem fname_size (k : Int) : (fnameV k).size ≤ 100 := by
  by_cases hk : 1 ≤ k ∧ k ≤ 8
  · have hc : k = 1 ∨ k = 2 ∨ k = 3 ∨ k = 4 ∨ k = 5 ∨ k = 6 ∨ k = 7 ∨ k = 8 := by omega
    rcases hc with rfl | rfl | rfl | rfl | rfl | rfl | rfl | rfl <;> decide +kernel
  · unfold fnameV
    rw [if_neg (by omega), if_neg (by omega), if_neg (by omega), if_neg (by omega), if_neg (by omega), if_neg (by omega), if_neg (by omega), if_neg (by omega)]
    decide
theorem line_bare {k id fk : Int} {data text : ByteArray} (hk : k = 0 ∨ k = 1) (h : (!data.toList.isEmpty) = false) : lineL ⟨k, id, fk, data, text⟩ = wordT k ++ 32 :: (Lib.itoa id ++ 32 :: (fnameV fk).data.toList) := by
  have hd : data.data.toList = [] := by
    rw [ByteArray.toList_eq] at h
    simpa using h
  unfold lineL
  rw [if_neg (by simp only; omega), if_neg (by simp only; omega), if_neg (by simp only; omega), if_pos hd]
theorem line_full {k id fk : Int} {data text : ByteArray} (hk : k = 0 ∨ k = 1) (h : (!data.toList.isEmpty) = true) : lineL ⟨k, id, fk, data, text⟩ = wordT k ++ 32 :: (Lib.itoa id ++ 32 :: ((fnameV fk).data.toList ++ 32 :: escL data.data.toList)) := by
  have hd : ¬ data.data.toList = [] := by
    rw [ByteArray.toList_eq] at h
    simpa using h
  unfold lineL
  rw [if_neg (by simp only; omega), if_neg (by simp only; omega), if_neg (by simp only; omega), if_neg hd]
set_option maxRecDepth 100000 in
set_option maxHeartbeats 4000000 in
theorem line_dial (id fk : Int) (data text : ByteArray) (hid : 0 < id ∧ id ≤ 999999999) (ht : text.size ≤ 1100000) (h : rightV ⟨2, id, fk, data, text⟩ = true) (w : World) (hv : VarsC w) : Calls Tryd.prog 11 #[outArg ⟨2, id, fk, data, text⟩] w (LinePost ⟨2, id, fk, data, text⟩ w) := by
  obtain ⟨k, hk⟩ : ∃ k : Int, k = 2 := ⟨_, rfl⟩
  rw [← hk] at h ⊢
  have HR := Lib.hid (fun W => right_any ⟨k, id, fk, data, text⟩ W)
  rw [h] at HR
  obtain ⟨i0, hi, hz0, hz1, hz2⟩ := info_parts str_info
  unfold LinePost
  rw [lineV_yes h]
  unfold outArg at *
  have HV := Lib.hid hv
  clear h hv
  dsimp only at HR ⊢
  subst hk
  have hw : (Lit.int .i64 id).wf = true := wf_of (by omega)
  have HE := Lib.hid (fun W h => itoaC_any id hw W h)
  have hES : (bs (Lib.itoa id)).size ≤ 100 := by rw [bs_size]; exact itoa_len hw
  have HEL := Lib.hid (show (bs (Lib.itoa id)).data.toList = Lib.itoa id from bs_list _)
  clear hw
  generalize bs (Lib.itoa id) = ev at *
  have HWC := Lib.hid (word_cell (k := 2) (by decide))
  have hws := wordB_size ⟨2, by decide⟩
  simp only at hws
  obtain ⟨LL, hLL⟩ : ∃ LL, lineL ⟨2, id, fk, data, text⟩ = LL := ⟨_, rfl⟩
  rw [hLL]
  have HLL := Lib.hid hLL
  clear hLL
  have HW0 := Lib.hid (show (wordB 2).data.toList = wordT 2 from rfl)
  generalize wordB 2 = y at *
  have HB0 := Lib.hid ((Below.refl w.heap.size w).alloc (Nat.le_refl _) (.cells #[.int .i64 2, .int .i64 id, .int .i64 fk, .string data, .string text] 27))
  have HK0 := Lib.hid (Blk.new w 27 #[.int .i64 2, .int .i64 id, .int .i64 fk, .string data, .string text])
  go_enter Tryd.func11, Tryd.ntmps11
  go_wp2_with fail
  refine (HR.out _).mono ?_
  rintro e w1 ⟨rfl, b1⟩
  have hk1 := Blk.b (by exact HK0.out) b1
  have HB1 := Lib.hid (HB0.out.trans (b1.mono HB0.out.size))
  have hl1 := hk1.lt
  have c0 := hk1.cell 0
  have c1 := hk1.cell 1
  have c2 := hk1.cell 2
  have c3 := hk1.cell 3
  have c4 := hk1.cell 4
  simp at c0 c1 c2 c3 c4
  have HK1 := Lib.hid hk1
  clear b1 hk1 HK0 HR
  go_wp2_with fail
  go_region_with (go_at_call 24; refine (words_any _).mono ?_; rintro e w4 ⟨gv, cv, rfl, hcv, hgv, hbv, b4⟩; have bb4 : B w1 w4 := B_trans (by (repeat (first | assumption | exact B_refl _ | refine B_drewN ?_ _ | refine B_drew ?_ | refine B_alloc ?_ _ | refine B_setCell ?_ (by first | (simp; done) | (simp; omega)) _ | refine B_trans ?_ (by assumption)))) b4; have kv : w4.cell? ⟨gv, 2, none⟩ = some (.string y) := (hbv.cell 2).trans HWC.out; have h4b : Blk w4 w.heap.size 27 #[.int .i64 2, .int .i64 id, .int .i64 fk, .string data, .string text] := HK1.out.b bb4; have d0 := h4b.cell 0; have d1 := h4b.cell 1; have d2 := h4b.cell 2; have d3 := h4b.cell 3; have d4 := h4b.cell 4; have hl4 := h4b.lt; have HK4 := Lib.hid h4b; have HB4 := Lib.hid bb4; simp at d0 d1 d2 d3 d4; clear hbv b4 hgv hcv h4b bb4)
  all_goals
    have HS5 := Lib.hid (sl_one (Blk.new w4 9 #[.string y]))
    have HB5 := Lib.hid (B_alloc HB4.out (.cells #[.string y] 9))
    have HK5 := Lib.hid (HK4.out.alloc (.cells #[.string y] 9))
    have hg5 : w1.heap.size ≤ w4.heap.size := HB4.out.size
    generalize w4.alloc (.cells #[.string y] 9) = W5 at *
    generalize w4.heap.size = g5 at *
    have k5 := HK5.out
    have d0 := k5.cell 0
    have d1 := k5.cell 1
    have d2 := k5.cell 2
    have d3 := k5.cell 3
    have d4 := k5.cell 4
    have hl5 := k5.lt
    simp at d0 d1 d2 d3 d4
    clear k5 HK4 HB4 c0 c1 c2 c3 c4
    clear HK1 HWC kv HB0
  all_goals
    have HB5' := Lib.hid (by first | exact HB5.out | exact B_drew HB5.out | exact B_drewN HB5.out _ : B w1 _)
    have hj : (Lib.join (([y, ev, text]).map (·.data.toList)) [32]).length ≤ 140737488355328 := by
      have := join_le' (L := [y, ev, text]) (B := 3400000) (by intro x hx; simp only [List.mem_cons, List.not_mem_nil, or_false] at hx; rcases hx with rfl | rfl | rfl <;> omega)
      simp only [List.length_cons, List.length_nil] at this
      omega
    have HJ := Lib.hid (fun (A : Option Addr) (c : Nat) (W : World) (h : StrsAt W A [y, ev, text]) (hc : ([y, ev, text] : List ByteArray).length ≤ c) => join_any A c [y, ev, text] W h hc (by simp) (by simp) hj)
    clear hj
    have HLV := Lib.hid (show joinV [y, ev, text] = bs LL by rw [join_three, ← HLL.out, HW0.out, HEL.out]; rfl)
    go_wp2_with fail
    have HKS := Lib.hid (fun (W : World) (b : B W5 W) => (show W.cell? ⟨w.heap.size, 1, none⟩ = some (.int .i64 id) ∧ W.cell? ⟨w.heap.size, 4, none⟩ = some (.string text) from ⟨(HK5.out.b b).cell 1, (HK5.out.b b).cell 4⟩))
    clear d0 d1 d2 d3 d4
    go_region_held3 (fun W => (W.cell? ⟨w.heap.size, 1, none⟩ = some (.int .i64 id) ∧ W.cell? ⟨w.heap.size, 4, none⟩ = some (.string text)) ∧ B W5 W) ((refine ⟨HKS.out _ ?_, ?_⟩; (repeat (first | assumption | exact B_refl _ | refine B_drewN ?_ _ | refine B_drew ?_ | refine B_alloc ?_ _ | refine B_setCell ?_ (by first | (simp; done) | (simp; omega)) _ | refine B_trans ?_ (by assumption))))) (first | (go_at_call 25; refine (HE.out _ (HV.out.below (HB1.out.trans ((B_trans HB5'.out (by (repeat (first | assumption | exact B_refl _ | refine B_drewN ?_ _ | refine B_drew ?_ | refine B_alloc ?_ _ | refine B_setCell ?_ (by first | (simp; done) | (simp; omega)) _ | refine B_trans ?_ (by assumption)))) : B w1 _).mono HB1.out.size)))).mono ?_; rintro e w6 ⟨rfl, b6⟩; have bb6 : B W5 w6 := B_trans (by (repeat (first | assumption | exact B_refl _ | refine B_drewN ?_ _ | refine B_drew ?_ | refine B_alloc ?_ _ | refine B_setCell ?_ (by first | (simp; done) | (simp; omega)) _ | refine B_trans ?_ (by assumption)))) b6) | (refine step_append_new _ (by rfl) (.tmp 48) (.tmp 54) 45 rfl 9 i0 _ 1 16 Tryd.underlying45 hi hz0 hz1 hz2 rfl (by decide) g5 0 1 1 (encS [y]) rfl (Sl.b HS5.out (by (repeat (first | assumption | exact B_refl _ | refine B_drewN ?_ _ | refine B_drew ?_ | refine B_alloc ?_ _ | refine B_setCell ?_ (by first | (simp; done) | (simp; omega)) _ | refine B_trans ?_ (by assumption))))) ⟨_, 0, none⟩ 2 2 [.string ev, .string text] rfl rfl (news2 (by simp) (by simp)) (by simp [Value.oneCell']) (by omega) (by unfold maxLen; omega) (by omega) ?_; intro A7 c7 w7 hs7 b7 ho7; have bb7 : B W5 w7 := B_trans (by (repeat (first | assumption | exact B_refl _ | refine B_drewN ?_ _ | refine B_drew ?_ | refine B_alloc ?_ _ | refine B_setCell ?_ (by first | (simp; done) | (simp; omega)) _ | refine B_trans ?_ (by assumption)))) b7))
    all_goals
      have HS7 := Lib.hid (show Sl w7 9 1 (.slice A7 3 c7) 3 (encS [y, ev, text]) from hs7)
      have HB7 := Lib.hid (show B w1 w7 from B_trans HB5.out bb7)
      clear hs7 bb7 ho7 b7
      go_wp2_with fail
      refine (HJ.out _ _ _ (StrsAt.of_Sl (HS7.out) rfl) (sl_cap (HS7.out))).mono ?_
      rintro e w8 ⟨rfl, b8⟩
      have B8 := Lib.hid (HB1.out.trans ((B_trans (HB7.out) b8).mono HB1.out.size))
      clear b8
      go_wp2_with fail
      go_ret2
      exact ⟨by rw [← HLV.out]; rfl, B8.out⟩
set_option maxRecDepth 100000 in
set_option maxHeartbeats 4000000 in
theorem line_pair0 (id fk : Int) (data text : ByteArray) (hid : 0 < id ∧ id ≤ 999999999) (hd : data.size ≤ 1100000) (h : rightV ⟨0, id, fk, data, text⟩ = true) (w : World) (hv : VarsC w) : Calls Tryd.prog 11 #[outArg ⟨0, id, fk, data, text⟩] w (LinePost ⟨0, id, fk, data, text⟩ w) := by
  obtain ⟨k, hk⟩ : ∃ k : Int, k = 0 := ⟨_, rfl⟩
  rw [← hk] at h ⊢
  have HR := Lib.hid (fun W => right_any ⟨k, id, fk, data, text⟩ W)
  rw [h] at HR
  obtain ⟨i0, hi, hz0, hz1, hz2⟩ := info_parts str_info
  unfold LinePost
  rw [lineV_yes h]
  unfold outArg at *
  have HV := Lib.hid hv
  clear h hv
  dsimp only at HR ⊢
  subst hk
  have hw : (Lit.int .i64 id).wf = true := wf_of (by omega)
  have HE := Lib.hid (fun W h => itoaC_any id hw W h)
  have hES : (bs (Lib.itoa id)).size ≤ 100 := by rw [bs_size]; exact itoa_len hw
  have HEL := Lib.hid (show (bs (Lib.itoa id)).data.toList = Lib.itoa id from bs_list _)
  clear hw
  generalize bs (Lib.itoa id) = ev at *
  have HFN := Lib.hid (fun W => fname_any fk W)
  have hFS : (fnameV fk).size ≤ 100 := fname_size fk
  obtain ⟨z, hz⟩ : ∃ z, fnameV fk = z := ⟨_, rfl⟩
  have HZ := Lib.hid hz
  rw [hz] at HFN hFS
  clear hz
  have HX := Lib.hid (fun W => escape_any data (by omega) W)
  have hXS := escV_big hd
  have HXL := Lib.hid (show (escV data).data.toList = escL data.data.toList from bs_list _)
  generalize escV data = xv at *
  have HWC := Lib.hid (word_cell (k := 0) (by decide))
  have hws := wordB_size ⟨0, by decide⟩
  simp only at hws
  obtain ⟨LL, hLL⟩ : ∃ LL, lineL ⟨0, id, fk, data, text⟩ = LL := ⟨_, rfl⟩
  rw [hLL]
  have HLL := Lib.hid hLL
  clear hLL
  have HW0 := Lib.hid (show (wordB 0).data.toList = wordT 0 from rfl)
  generalize wordB 0 = y at *
  have HB0 := Lib.hid ((Below.refl w.heap.size w).alloc (Nat.le_refl _) (.cells #[.int .i64 0, .int .i64 id, .int .i64 fk, .string data, .string text] 27))
  have HK0 := Lib.hid (Blk.new w 27 #[.int .i64 0, .int .i64 id, .int .i64 fk, .string data, .string text])
  go_enter Tryd.func11, Tryd.ntmps11
  go_wp2_with fail
  refine (HR.out _).mono ?_
  rintro e w1 ⟨rfl, b1⟩
  have hk1 := Blk.b (by exact HK0.out) b1
  have HB1 := Lib.hid (HB0.out.trans (b1.mono HB0.out.size))
  have hl1 := hk1.lt
  have c0 := hk1.cell 0
  have c1 := hk1.cell 1
  have c2 := hk1.cell 2
  have c3 := hk1.cell 3
  have c4 := hk1.cell 4
  simp at c0 c1 c2 c3 c4
  have HK1 := Lib.hid hk1
  clear b1 hk1 HK0 HR
  go_wp2_with fail
  go_region_with (go_at_call 24; refine (words_any _).mono ?_; rintro e w4 ⟨gv, cv, rfl, hcv, hgv, hbv, b4⟩; have bb4 : B w1 w4 := B_trans (by (repeat (first | assumption | exact B_refl _ | refine B_drewN ?_ _ | refine B_drew ?_ | refine B_alloc ?_ _ | refine B_setCell ?_ (by first | (simp; done) | (simp; omega)) _ | refine B_trans ?_ (by assumption)))) b4; have kv : w4.cell? ⟨gv, 0, none⟩ = some (.string y) := (hbv.cell 0).trans HWC.out; have h4b : Blk w4 w.heap.size 27 #[.int .i64 0, .int .i64 id, .int .i64 fk, .string data, .string text] := HK1.out.b bb4; have d0 := h4b.cell 0; have d1 := h4b.cell 1; have d2 := h4b.cell 2; have d3 := h4b.cell 3; have d4 := h4b.cell 4; have hl4 := h4b.lt; have HK4 := Lib.hid h4b; have HB4 := Lib.hid bb4; simp at d0 d1 d2 d3 d4; clear hbv b4 hgv hcv h4b bb4)
  all_goals
    have HS5 := Lib.hid (sl_one (Blk.new w4 9 #[.string y]))
    have HB5 := Lib.hid (B_alloc HB4.out (.cells #[.string y] 9))
    have HK5 := Lib.hid (HK4.out.alloc (.cells #[.string y] 9))
    have hg5 : w1.heap.size ≤ w4.heap.size := HB4.out.size
    generalize w4.alloc (.cells #[.string y] 9) = W5 at *
    generalize w4.heap.size = g5 at *
    have k5 := HK5.out
    have d0 := k5.cell 0
    have d1 := k5.cell 1
    have d2 := k5.cell 2
    have d3 := k5.cell 3
    have d4 := k5.cell 4
    have hl5 := k5.lt
    simp at d0 d1 d2 d3 d4
    clear k5 HK4 HB4 c0 c1 c2 c3 c4
    clear HK1 HWC kv HB0
  all_goals
    have HB5' := Lib.hid (by first | exact HB5.out | exact B_drew HB5.out | exact B_drewN HB5.out _ : B w1 _)
    go_wp2_with fail
    have HKS := Lib.hid (fun (W : World) (b : B W5 W) => (show W.cell? ⟨w.heap.size, 1, none⟩ = some (.int .i64 id) ∧ W.cell? ⟨w.heap.size, 2, none⟩ = some (.int .i64 fk) ∧ W.cell? ⟨w.heap.size, 3, none⟩ = some (.string data) from ⟨(HK5.out.b b).cell 1, (HK5.out.b b).cell 2, (HK5.out.b b).cell 3⟩))
    clear d0 d1 d2 d3 d4
    go_region_held3 (fun W => (W.cell? ⟨w.heap.size, 1, none⟩ = some (.int .i64 id) ∧ W.cell? ⟨w.heap.size, 2, none⟩ = some (.int .i64 fk) ∧ W.cell? ⟨w.heap.size, 3, none⟩ = some (.string data)) ∧ B W5 W) ((refine ⟨HKS.out _ ?_, ?_⟩; (repeat (first | assumption | exact B_refl _ | refine B_drewN ?_ _ | refine B_drew ?_ | refine B_alloc ?_ _ | refine B_setCell ?_ (by first | (simp; done) | (simp; omega)) _ | refine B_trans ?_ (by assumption))))) (first | (go_at_call 25; refine (HE.out _ (HV.out.below (HB1.out.trans ((B_trans HB5'.out (by (repeat (first | assumption | exact B_refl _ | refine B_drewN ?_ _ | refine B_drew ?_ | refine B_alloc ?_ _ | refine B_setCell ?_ (by first | (simp; done) | (simp; omega)) _ | refine B_trans ?_ (by assumption)))) : B w1 _).mono HB1.out.size)))).mono ?_; rintro e w6 ⟨rfl, b6⟩; have bb6 : B W5 w6 := B_trans (by (repeat (first | assumption | exact B_refl _ | refine B_drewN ?_ _ | refine B_drew ?_ | refine B_alloc ?_ _ | refine B_setCell ?_ (by first | (simp; done) | (simp; omega)) _ | refine B_trans ?_ (by assumption)))) b6) | (go_at_call 26; refine (HFN.out _).mono ?_; rintro e wf ⟨rfl, bf⟩; have bbf : B W5 wf := B_trans (by (repeat (first | assumption | exact B_refl _ | refine B_drewN ?_ _ | refine B_drew ?_ | refine B_alloc ?_ _ | refine B_setCell ?_ (by first | (simp; done) | (simp; omega)) _ | refine B_trans ?_ (by assumption)))) bf) | (refine step_append_new _ (by rfl) (.tmp 16) (.tmp 24) 45 rfl 9 i0 _ 1 16 Tryd.underlying45 hi hz0 hz1 hz2 rfl (by decide) g5 0 1 1 (encS [y]) rfl (Sl.b HS5.out (by (repeat (first | assumption | exact B_refl _ | refine B_drewN ?_ _ | refine B_drew ?_ | refine B_alloc ?_ _ | refine B_setCell ?_ (by first | (simp; done) | (simp; omega)) _ | refine B_trans ?_ (by assumption))))) ⟨_, 0, none⟩ 2 2 [.string ev, .string z] rfl rfl (news2 (by simp) (by simp)) (by simp [Value.oneCell']) (by omega) (by unfold maxLen; omega) (by omega) ?_; intro A7 c7 w7 hs7 b7 ho7; have bb7 : B W5 w7 := B_trans (by (repeat (first | assumption | exact B_refl _ | refine B_drewN ?_ _ | refine B_drew ?_ | refine B_alloc ?_ _ | refine B_setCell ?_ (by first | (simp; done) | (simp; omega)) _ | refine B_trans ?_ (by assumption)))) b7))
  all_goals
    have HS7 := Lib.hid (show Sl w7 9 1 (.slice A7 3 c7) 3 (encS [y, ev, z]) from hs7)
    have HB7 := Lib.hid (show B w1 w7 from B_trans HB5'.out bb7)
    have HO7 := Lib.hid (show ∀ g, Value.ownBlock (.slice A7 3 c7) = some g → w1.heap.size ≤ g from fun g hg => Nat.le_trans (by first | exact (B_alloc (B_trans HB5'.out bb6) _).size | exact (B_alloc (B_trans HB5'.out bbf) _).size | exact (B_alloc (B_drew (B_trans HB5'.out bb6)) _).size | exact (B_alloc (B_drew (B_trans HB5'.out bbf)) _).size | exact (B_alloc (B_drewN (B_trans HB5'.out bb6) _) _).size | exact (B_alloc (B_drewN (B_trans HB5'.out bbf) _) _).size) (ho7 g hg))
    have d3 := (HKS.out _ bb7).2.2
    clear hs7 bb7 ho7 b7
    rcases hde2 : (!data.toList.isEmpty) with _ | _
    · have hj : (Lib.join (([y, ev, z]).map (·.data.toList)) [32]).length ≤ 140737488355328 := by
        have := join_le' (L := [y, ev, z]) (B := 3400000) (by intro x hx; simp only [List.mem_cons, List.not_mem_nil, or_false] at hx; rcases hx with rfl | rfl | rfl <;> omega)
        simp only [List.length_cons, List.length_nil] at this
        omega
      have HJ := Lib.hid (fun (A : Option Addr) (c : Nat) (W : World) (h : StrsAt W A [y, ev, z]) (hc : ([y, ev, z] : List ByteArray).length ≤ c) => join_any A c [y, ev, z] W h hc (by simp) (by simp) hj)
      clear hj
      have HLV := Lib.hid (show joinV [y, ev, z] = bs LL by rw [join_three, ← HLL.out, line_bare (by omega) hde2, HW0.out, HEL.out, ← HZ.out])
      go_wp2_with fail
      refine (HJ.out _ _ _ (StrsAt.of_Sl (HS7.out) rfl) (sl_cap (HS7.out))).mono ?_
      rintro e w8 ⟨rfl, b8⟩
      have B8 := Lib.hid (HB1.out.trans ((B_trans (HB7.out) b8).mono HB1.out.size))
      clear b8
      go_wp2_with fail
      go_ret2
      exact ⟨by rw [← HLV.out]; rfl, B8.out⟩
    · have hj : (Lib.join (([y, ev, z, xv]).map (·.data.toList)) [32]).length ≤ 140737488355328 := by
        have := join_le' (L := [y, ev, z, xv]) (B := 3400000) (by intro x hx; simp only [List.mem_cons, List.not_mem_nil, or_false] at hx; rcases hx with rfl | rfl | rfl | rfl <;> omega)
        simp only [List.length_cons, List.length_nil] at this
        omega
      have HJ := Lib.hid (fun (A : Option Addr) (c : Nat) (W : World) (h : StrsAt W A [y, ev, z, xv]) (hc : ([y, ev, z, xv] : List ByteArray).length ≤ c) => join_any A c [y, ev, z, xv] W h hc (by simp) (by simp) hj)
      clear hj
      have HLV := Lib.hid (show joinV [y, ev, z, xv] = bs LL by rw [join_four, ← HLL.out, line_full (by omega) hde2, HW0.out, HEL.out, ← HZ.out, HXL.out])
      go_wp2_with fail
      refine (HX.out _).mono ?_
      rintro e wx ⟨rfl, bx⟩
      have HSX := Lib.hid (Sl.b (by exact HS7.out) bx)
      have HBX := Lib.hid (B_trans HB7.out bx : B w1 wx)
      clear bx d3
      go_wp2_with (at_builtin; refine wpList_append_sl _ rfl (.tmp 30) (.tmp 35) 45 rfl 9 i0 _ 1 16 Tryd.underlying45 hi hz0 hz1 hz2 rfl (by decide) (.slice A7 3 c7) 3 (encS [y, ev, z]) rfl ?hs ⟨_, 0, none⟩ 1 1 [.string xv] rfl rfl ?hn ?h1 ?hm ?hb ?_)
      case hs => repeat (first | exact HSX.out | refine Sl.alloc ?_ _)
      case hn => exact news1 (by simp)
      case h1 => simp [Value.oneCell']
      case hm => unfold maxLen; omega
      case hb => omega
      intro A2 c2 w9 hs9 ho9 hl9
      have HS9 := Lib.hid (show Sl w9 9 1 (.slice A2 4 c2) 4 (encS [y, ev, z, xv]) from hs9)
      have HB9 := Lib.hid (B_only (B_alloc HBX.out _) ho9 (by intro g hg; exact HO7.out g hg))
      clear hs9 ho9 hl9
      go_wp2_with fail
      refine (HJ.out _ _ _ (StrsAt.of_Sl (HS9.out) rfl) (sl_cap (HS9.out))).mono ?_
      rintro e w8 ⟨rfl, b8⟩
      have B8 := Lib.hid (HB1.out.trans ((B_trans (HB9.out) b8).mono HB1.out.size))
      clear b8
      go_wp2_with fail
      go_ret2
      exact ⟨by rw [← HLV.out]; rfl, B8.out⟩
set_option maxRecDepth 100000 in
set_option maxHeartbeats 4000000 in
theorem line_pair1 (id fk : Int) (data text : ByteArray) (hid : 0 < id ∧ id ≤ 999999999) (hd : data.size ≤ 1100000) (h : rightV ⟨1, id, fk, data, text⟩ = true) (w : World) (hv : VarsC w) : Calls Tryd.prog 11 #[outArg ⟨1, id, fk, data, text⟩] w (LinePost ⟨1, id, fk, data, text⟩ w) := by
  obtain ⟨k, hk⟩ : ∃ k : Int, k = 1 := ⟨_, rfl⟩
  rw [← hk] at h ⊢
  have HR := Lib.hid (fun W => right_any ⟨k, id, fk, data, text⟩ W)
  rw [h] at HR
  obtain ⟨i0, hi, hz0, hz1, hz2⟩ := info_parts str_info
  unfold LinePost
  rw [lineV_yes h]
  unfold outArg at *
  have HV := Lib.hid hv
  clear h hv
  dsimp only at HR ⊢
  subst hk
  have hw : (Lit.int .i64 id).wf = true := wf_of (by omega)
  have HE := Lib.hid (fun W h => itoaC_any id hw W h)
  have hES : (bs (Lib.itoa id)).size ≤ 100 := by rw [bs_size]; exact itoa_len hw
  have HEL := Lib.hid (show (bs (Lib.itoa id)).data.toList = Lib.itoa id from bs_list _)
  clear hw
  generalize bs (Lib.itoa id) = ev at *
  have HFN := Lib.hid (fun W => fname_any fk W)
  have hFS : (fnameV fk).size ≤ 100 := fname_size fk
  obtain ⟨z, hz⟩ : ∃ z, fnameV fk = z := ⟨_, rfl⟩
  have HZ := Lib.hid hz
  rw [hz] at HFN hFS
  clear hz
  have HX := Lib.hid (fun W => escape_any data (by omega) W)
  have hXS := escV_big hd
  have HXL := Lib.hid (show (escV data).data.toList = escL data.data.toList from bs_list _)
  generalize escV data = xv at *
  have HWC := Lib.hid (word_cell (k := 1) (by decide))
  have hws := wordB_size ⟨1, by decide⟩
  simp only at hws
  obtain ⟨LL, hLL⟩ : ∃ LL, lineL ⟨1, id, fk, data, text⟩ = LL := ⟨_, rfl⟩
  rw [hLL]
  have HLL := Lib.hid hLL
  clear hLL
  have HW0 := Lib.hid (show (wordB 1).data.toList = wordT 1 from rfl)
  generalize wordB 1 = y at *
  have HB0 := Lib.hid ((Below.refl w.heap.size w).alloc (Nat.le_refl _) (.cells #[.int .i64 1, .int .i64 id, .int .i64 fk, .string data, .string text] 27))
  have HK0 := Lib.hid (Blk.new w 27 #[.int .i64 1, .int .i64 id, .int .i64 fk, .string data, .string text])
  go_enter Tryd.func11, Tryd.ntmps11
  go_wp2_with fail
  refine (HR.out _).mono ?_
  rintro e w1 ⟨rfl, b1⟩
  have hk1 := Blk.b (by exact HK0.out) b1
  have HB1 := Lib.hid (HB0.out.trans (b1.mono HB0.out.size))
  have hl1 := hk1.lt
  have c0 := hk1.cell 0
  have c1 := hk1.cell 1
  have c2 := hk1.cell 2
  have c3 := hk1.cell 3
  have c4 := hk1.cell 4
  simp at c0 c1 c2 c3 c4
  have HK1 := Lib.hid hk1
  clear b1 hk1 HK0 HR
  go_wp2_with fail
  go_region_with (go_at_call 24; refine (words_any _).mono ?_; rintro e w4 ⟨gv, cv, rfl, hcv, hgv, hbv, b4⟩; have bb4 : B w1 w4 := B_trans (by (repeat (first | assumption | exact B_refl _ | refine B_drewN ?_ _ | refine B_drew ?_ | refine B_alloc ?_ _ | refine B_setCell ?_ (by first | (simp; done) | (simp; omega)) _ | refine B_trans ?_ (by assumption)))) b4; have kv : w4.cell? ⟨gv, 1, none⟩ = some (.string y) := (hbv.cell 1).trans HWC.out; have h4b : Blk w4 w.heap.size 27 #[.int .i64 1, .int .i64 id, .int .i64 fk, .string data, .string text] := HK1.out.b bb4; have d0 := h4b.cell 0; have d1 := h4b.cell 1; have d2 := h4b.cell 2; have d3 := h4b.cell 3; have d4 := h4b.cell 4; have hl4 := h4b.lt; have HK4 := Lib.hid h4b; have HB4 := Lib.hid bb4; simp at d0 d1 d2 d3 d4; clear hbv b4 hgv hcv h4b bb4)
  all_goals
    have HS5 := Lib.hid (sl_one (Blk.new w4 9 #[.string y]))
    have HB5 := Lib.hid (B_alloc HB4.out (.cells #[.string y] 9))
    have HK5 := Lib.hid (HK4.out.alloc (.cells #[.string y] 9))
    have hg5 : w1.heap.size ≤ w4.heap.size := HB4.out.size
    generalize w4.alloc (.cells #[.string y] 9) = W5 at *
    generalize w4.heap.size = g5 at *
    have k5 := HK5.out
    have d0 := k5.cell 0
    have d1 := k5.cell 1
    have d2 := k5.cell 2
    have d3 := k5.cell 3
    have d4 := k5.cell 4
    have hl5 := k5.lt
    simp at d0 d1 d2 d3 d4
    clear k5 HK4 HB4 c0 c1 c2 c3 c4
    clear HK1 HWC kv HB0
  all_goals
    have HB5' := Lib.hid (by first | exact HB5.out | exact B_drew HB5.out | exact B_drewN HB5.out _ : B w1 _)
    go_wp2_with fail
    have HKS := Lib.hid (fun (W : World) (b : B W5 W) => (show W.cell? ⟨w.heap.size, 1, none⟩ = some (.int .i64 id) ∧ W.cell? ⟨w.heap.size, 2, none⟩ = some (.int .i64 fk) ∧ W.cell? ⟨w.heap.size, 3, none⟩ = some (.string data) from ⟨(HK5.out.b b).cell 1, (HK5.out.b b).cell 2, (HK5.out.b b).cell 3⟩))
    clear d0 d1 d2 d3 d4
    go_region_held3 (fun W => (W.cell? ⟨w.heap.size, 1, none⟩ = some (.int .i64 id) ∧ W.cell? ⟨w.heap.size, 2, none⟩ = some (.int .i64 fk) ∧ W.cell? ⟨w.heap.size, 3, none⟩ = some (.string data)) ∧ B W5 W) ((refine ⟨HKS.out _ ?_, ?_⟩; (repeat (first | assumption | exact B_refl _ | refine B_drewN ?_ _ | refine B_drew ?_ | refine B_alloc ?_ _ | refine B_setCell ?_ (by first | (simp; done) | (simp; omega)) _ | refine B_trans ?_ (by assumption))))) (first | (go_at_call 25; refine (HE.out _ (HV.out.below (HB1.out.trans ((B_trans HB5'.out (by (repeat (first | assumption | exact B_refl _ | refine B_drewN ?_ _ | refine B_drew ?_ | refine B_alloc ?_ _ | refine B_setCell ?_ (by first | (simp; done) | (simp; omega)) _ | refine B_trans ?_ (by assumption)))) : B w1 _).mono HB1.out.size)))).mono ?_; rintro e w6 ⟨rfl, b6⟩; have bb6 : B W5 w6 := B_trans (by (repeat (first | assumption | exact B_refl _ | refine B_drewN ?_ _ | refine B_drew ?_ | refine B_alloc ?_ _ | refine B_setCell ?_ (by first | (simp; done) | (simp; omega)) _ | refine B_trans ?_ (by assumption)))) b6) | (go_at_call 26; refine (HFN.out _).mono ?_; rintro e wf ⟨rfl, bf⟩; have bbf : B W5 wf := B_trans (by (repeat (first | assumption | exact B_refl _ | refine B_drewN ?_ _ | refine B_drew ?_ | refine B_alloc ?_ _ | refine B_setCell ?_ (by first | (simp; done) | (simp; omega)) _ | refine B_trans ?_ (by assumption)))) bf) | (refine step_append_new _ (by rfl) (.tmp 16) (.tmp 24) 45 rfl 9 i0 _ 1 16 Tryd.underlying45 hi hz0 hz1 hz2 rfl (by decide) g5 0 1 1 (encS [y]) rfl (Sl.b HS5.out (by (repeat (first | assumption | exact B_refl _ | refine B_drewN ?_ _ | refine B_drew ?_ | refine B_alloc ?_ _ | refine B_setCell ?_ (by first | (simp; done) | (simp; omega)) _ | refine B_trans ?_ (by assumption))))) ⟨_, 0, none⟩ 2 2 [.string ev, .string z] rfl rfl (news2 (by simp) (by simp)) (by simp [Value.oneCell']) (by omega) (by unfold maxLen; omega) (by omega) ?_; intro A7 c7 w7 hs7 b7 ho7; have bb7 : B W5 w7 := B_trans (by (repeat (first | assumption | exact B_refl _ | refine B_drewN ?_ _ | refine B_drew ?_ | refine B_alloc ?_ _ | refine B_setCell ?_ (by first | (simp; done) | (simp; omega)) _ | refine B_trans ?_ (by assumption)))) b7))
  all_goals
    have HS7 := Lib.hid (show Sl w7 9 1 (.slice A7 3 c7) 3 (encS [y, ev, z]) from hs7)
    have HB7 := Lib.hid (show B w1 w7 from B_trans HB5'.out bb7)
    have HO7 := Lib.hid (show ∀ g, Value.ownBlock (.slice A7 3 c7) = some g → w1.heap.size ≤ g from fun g hg => Nat.le_trans (by first | exact (B_alloc (B_trans HB5'.out bb6) _).size | exact (B_alloc (B_trans HB5'.out bbf) _).size | exact (B_alloc (B_drew (B_trans HB5'.out bb6)) _).size | exact (B_alloc (B_drew (B_trans HB5'.out bbf)) _).size | exact (B_alloc (B_drewN (B_trans HB5'.out bb6) _) _).size | exact (B_alloc (B_drewN (B_trans HB5'.out bbf) _) _).size) (ho7 g hg))
    have d3 := (HKS.out _ bb7).2.2
    clear hs7 bb7 ho7 b7
    rcases hde2 : (!data.toList.isEmpty) with _ | _
    · have hj : (Lib.join (([y, ev, z]).map (·.data.toList)) [32]).length ≤ 140737488355328 := by
        have := join_le' (L := [y, ev, z]) (B := 3400000) (by intro x hx; simp only [List.mem_cons, List.not_mem_nil, or_false] at hx; rcases hx with rfl | rfl | rfl <;> omega)
        simp only [List.length_cons, List.length_nil] at this
        omega
      have HJ := Lib.hid (fun (A : Option Addr) (c : Nat) (W : World) (h : StrsAt W A [y, ev, z]) (hc : ([y, ev, z] : List ByteArray).length ≤ c) => join_any A c [y, ev, z] W h hc (by simp) (by simp) hj)
      clear hj
      have HLV := Lib.hid (show joinV [y, ev, z] = bs LL by rw [join_three, ← HLL.out, line_bare (by omega) hde2, HW0.out, HEL.out, ← HZ.out])
      go_wp2_with fail
      refine (HJ.out _ _ _ (StrsAt.of_Sl (HS7.out) rfl) (sl_cap (HS7.out))).mono ?_
      rintro e w8 ⟨rfl, b8⟩
      have B8 := Lib.hid (HB1.out.trans ((B_trans (HB7.out) b8).mono HB1.out.size))
      clear b8
      go_wp2_with fail
      go_ret2
      exact ⟨by rw [← HLV.out]; rfl, B8.out⟩
    · have hj : (Lib.join (([y, ev, z, xv]).map (·.data.toList)) [32]).length ≤ 140737488355328 := by
        have := join_le' (L := [y, ev, z, xv]) (B := 3400000) (by intro x hx; simp only [List.mem_cons, List.not_mem_nil, or_false] at hx; rcases hx with rfl | rfl | rfl | rfl <;> omega)
        simp only [List.length_cons, List.length_nil] at this
        omega
      have HJ := Lib.hid (fun (A : Option Addr) (c : Nat) (W : World) (h : StrsAt W A [y, ev, z, xv]) (hc : ([y, ev, z, xv] : List ByteArray).length ≤ c) => join_any A c [y, ev, z, xv] W h hc (by simp) (by simp) hj)
      clear hj
      have HLV := Lib.hid (show joinV [y, ev, z, xv] = bs LL by rw [join_four, ← HLL.out, line_full (by omega) hde2, HW0.out, HEL.out, ← HZ.out, HXL.out])
      go_wp2_with fail
      refine (HX.out _).mono ?_
      rintro e wx ⟨rfl, bx⟩
      have HSX := Lib.hid (Sl.b (by exact HS7.out) bx)
      have HBX := Lib.hid (B_trans HB7.out bx : B w1 wx)
      clear bx d3
      go_wp2_with (at_builtin; refine wpList_append_sl _ rfl (.tmp 30) (.tmp 35) 45 rfl 9 i0 _ 1 16 Tryd.underlying45 hi hz0 hz1 hz2 rfl (by decide) (.slice A7 3 c7) 3 (encS [y, ev, z]) rfl ?hs ⟨_, 0, none⟩ 1 1 [.string xv] rfl rfl ?hn ?h1 ?hm ?hb ?_)
      case hs => repeat (first | exact HSX.out | refine Sl.alloc ?_ _)
      case hn => exact news1 (by simp)
      case h1 => simp [Value.oneCell']
      case hm => unfold maxLen; omega
      case hb => omega
      intro A2 c2 w9 hs9 ho9 hl9
      have HS9 := Lib.hid (show Sl w9 9 1 (.slice A2 4 c2) 4 (encS [y, ev, z, xv]) from hs9)
      have HB9 := Lib.hid (B_only (B_alloc HBX.out _) ho9 (by intro g hg; exact HO7.out g hg))
      clear hs9 ho9 hl9
      go_wp2_with fail
      refine (HJ.out _ _ _ (StrsAt.of_Sl (HS9.out) rfl) (sl_cap (HS9.out))).mono ?_
      rintro e w8 ⟨rfl, b8⟩
      have B8 := Lib.hid (HB1.out.trans ((B_trans (HB9.out) b8).mono HB1.out.size))
      clear b8
      go_wp2_with fail
      go_ret2
      exact ⟨by rw [← HLV.out]; rfl, B8.out⟩
theorem line_any (o : OutV) (hd : o.data.size ≤ 1100000) (ht : o.text.size ≤ 1100000) (w : World) (hv : VarsC w) : Calls Tryd.prog 11 #[outArg o] w (LinePost o w) := by
  cases h : rightV o with
  | false => exact line_not o h w
  | true =>
    obtain ⟨k, id, fk, data, text⟩ := o
    simp only at hd ht
    rcases right_cases h with ⟨hk, h1, h2, _⟩ | ⟨hk, h1, h2, _⟩ | ⟨hk, h1, h2, _⟩ | ⟨hk, _⟩
    · simp only at hk h1 h2
      rcases hk with rfl | rfl
      · exact line_pair0 id fk data text ⟨h1, h2⟩ hd h w hv
      · exact line_pair1 id fk data text ⟨h1, h2⟩ hd h w hv
    · simp only at hk h1 h2
      subst hk
      exact line_dial id fk data text ⟨h1, h2⟩ ht h w hv
    · simp only at hk h1 h2
      exact line_gone k id fk data text hk ⟨h1, h2⟩ h w hv
    · simp only at hk
      exact line_say k id fk data text hk ht h w hv
end Go.Proofs.YthalpaggcdpcbaaDoor.Tr
