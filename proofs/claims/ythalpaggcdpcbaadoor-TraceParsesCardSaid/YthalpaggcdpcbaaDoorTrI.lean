/- The reference's Unescape: its walk. -/
import Derived.Test.YthalpaggcdpcbaaDoorTrD
import Derived.Test.YthalpaggcdpcbaaDoorTrF
namespace Go.Proofs.YthalpaggcdpcbaaDoor.Tr
open Go.RowKit Go.Proofs.YthalpaggcdpcbaaDoor Go.Proofs.YthalpaggcdpcbaaDoor.Nm Go.Proofs.YthalpaggcdpcbaaDoor.Cf
theorem conv_back {w : World} {A : Option Addr} {n c : Nat} {o : List UInt8} (h : Sl w 5 1 (.slice A n c) n (Lib.byteCells o)) (hn : o.length = n) : (convert 50 9 (.slice A n c)).run Tryd.prog w = .ok (.string (bs o)) w := by
  subst hn
  rcases h.2 with ⟨he, _⟩ | ⟨g, o', cap', cur, he, _⟩
  · obtain ⟨h1, h2, h3⟩ := Value.slice.inj he
    subst h1
    have ho : o = [] := List.eq_nil_of_length_eq_zero h2
    subst ho
    rw [show ([] : List UInt8).length = 0 from rfl, run_convert_bytes_string w _ _ 5 none _ _ Tryd.underlying50 Tryd.underlying5 Tryd.underlying9]
    rfl
  · obtain ⟨h1, h2, h3⟩ := Value.slice.inj he
    subst h1
    refine run_convert_bytes_back w _ _ 5 _ _ o Tryd.underlying50 Tryd.underlying5 Tryd.underlying9 fun j hj => ?_
    obtain ⟨g2, o2, e2, _, hc⟩ := h.cells (by omega)
    injection e2 with e2
    rw [e2, addr_add]
    exact hc j _ (by unfold Lib.byteCells; rw [List.getElem?_map, List.getElem?_eq_getElem hj]; rfl)
set_option maxRecDepth 100000 in
set_option maxHeartbeats 8000000 in
theorem refunescape_any (s : ByteArray) (hs : s.size ≤ 100000) (w : World) : Calls Tryd.prog 22 #[.string s] w (UnPost s w) := by
  obtain ⟨i0, hi, hz0, hz1, hz2⟩ := info_parts infoU
  unfold UnPost
  go_enter Tryd.func22, Tryd.ntmps22
  go_wp2_with fail
  go_loopw [4, 5] (fun lv i wr => ∃ (o : List UInt8) (A : Option Addr) (n c j : Nat), j ≤ s.size ∧ n ≤ j ∧ i = .int .i64 j ∧ lv = .slice A n c ∧ o.length = n ∧ UnAt s j o ∧ Sl wr 5 1 (.slice A n c) n (Lib.byteCells o) ∧ (∀ g, Value.ownBlock (.slice A n c) = some g → w.heap.size ≤ g) ∧ B w wr) (fun _ i _ => s.size - (intOf i).toNat)
  case atStart => exact ⟨[], none, 0, 0, 0, Nat.zero_le _, Nat.zero_le _, rfl, rfl, rfl, by unfold UnAt; simp, Sl.nil _ _ _, fun g hg => (by cases hg), by repeat (first | with_reducible exact B_refl _ | refine B_drew ?_ | refine B_drewN ?_ _)⟩
  case round =>
    obtain ⟨o, A, n, c, j, hj, hnj, rfl, rfl, hon, hun, hsl, how, hr⟩ := hrel
    have BR := Lib.hid hr
    have HSL := Lib.hid hsl
    have HOW := Lib.hid how
    have HUN := Lib.hid hun
    clear hr hsl how hun
    by_cases hjm : j < s.size
    · have i1 := fun W => byte_run s j hjm W
      by_cases hx : s[j] = 92
      · have t1 : (((s[j]'hjm).toNat : Int) == 92) = true := by rw [hx]; rfl
        by_cases hshort : s.size ≤ j + 2
        · have HP := Lib.hid (un_none (un_short hjm hshort HUN.out hx))
          have t2 : decide ((s.size : Int) ≤ (j : Int) + 2) = true := decide_eq_true (by omega)
          clear hx
          generalize s[j]'hjm = x at *
          go_wp2_with fail
          go_ret2
          exact ⟨by rw [HP.out]; rfl, by repeat (first | with_reducible exact BR.out | refine B_drew ?_ | refine B_drewN ?_ _)⟩
        · have t2 : decide ((s.size : Int) ≤ (j : Int) + 2) = false := decide_eq_false (by omega)
          have hj2 : j + 2 < s.size := by omega
          have i2 := fun W => byte_run s (j + 1) (by omega) W
          have i3 : ∀ W, (Instr.index 9 (.string s) (.int .i64 ((j : Int) + 2))).run Tryd.prog W = .ok (.int .u8 ((s[j + 2]'hj2).toNat : Int)) W := fun W => by
            have h := byte_run s (j + 2) hj2 W
            rwa [show ((j + 2 : Nat) : Int) = (j : Int) + 2 from by omega] at h
          push_cast at i2
          have hj1 : j + 1 < s.size := by omega
          have HD1 := Lib.hid (fun W => refdigit_any (s[j + 1]'hj1) W)
          have HD2 := Lib.hid (fun W => refdigit_any (s[j + 2]'hj2) W)
          have HBAD := Lib.hid (fun (hn : ¬ (0 ≤ digI (s[j + 1]'hj1) ∧ 0 ≤ digI (s[j + 2]'hj2))) => un_none (un_bad hj2 HUN.out hx hn))
          have HGOOD := Lib.hid (fun (h1 : 0 ≤ digI (s[j + 1]'hj1)) (h2 : 0 ≤ digI (s[j + 2]'hj2)) => un_three hj2 HUN.out hx h1 h2)
          have HBY := Lib.hid (fun (h1 : 0 ≤ digI (s[j + 1]'hj1)) (h2 : 0 ≤ digI (s[j + 2]'hj2)) => byte_of (s[j + 1]'hj1) (s[j + 2]'hj2) h1 h2)
          clear hx
          generalize byteOf (s[j + 1]'hj1) (s[j + 2]'hj2) = z at *
          generalize s[j]'hjm = x at *
          generalize s[j + 1]'hj1 = y1 at *
          generalize s[j + 2]'hj2 = y2 at *
          obtain ⟨e1, he1⟩ : ∃ e1, digI y1 = e1 := ⟨_, rfl⟩
          obtain ⟨e2, he2⟩ : ∃ e2, digI y2 = e2 := ⟨_, rfl⟩
          rw [he1] at HD1 HBAD HGOOD HBY
          rw [he2] at HD2 HBAD HGOOD HBY
          clear he1 he2
          by_cases q1 : 0 ≤ e1
          · by_cases q2 : 0 ≤ e2
            · obtain ⟨hz, hl1, hl2⟩ := HBY.out q1 q2
              have HUT := Lib.hid (HGOOD.out q1 q2)
              have v1 : decide (e1 < 0) = false := decide_eq_false (by omega)
              have v2 : decide (e2 < 0) = false := decide_eq_false (by omega)
              have w1 : IntKind.i64.wrap (16 * e1) = 16 * e1 := IntWalk.i64_in _ (by omega)
              have w2 : IntKind.i64.wrap (16 * e1 + e2) = 16 * e1 + e2 := IntWalk.i64_in _ (by omega)
              have w3 : IntKind.u8.wrap (16 * e1 + e2) = 16 * e1 + e2 := IntWalk.u8_in _ (by omega)
              have w4 : IntKind.i64.wrap ((j : Int) + 1) = (j : Int) + 1 := IntWalk.i64_in _ (by omega)
              have w5 : IntKind.i64.wrap ((j : Int) + 2) = (j : Int) + 2 := IntWalk.i64_in _ (by omega)
              go_wp2_with fail
              refine (HD1.out _).mono ?_
              rintro e wd ⟨rfl, rfl⟩
              go_wp2_with fail
              refine (HD2.out _).mono ?_
              rintro e wd ⟨rfl, rfl⟩
              go_wp2_with fail
              go_region_held3 (fun _ => True) (trivial) (first | (go_at_call 47; with_reducible refine (HD1.out _).mono ?_; rintro e we ⟨rfl, rfl⟩) | (go_at_call 47; with_reducible refine (HD2.out _).mono ?_; rintro e we ⟨rfl, rfl⟩) | (refine step_append_sl _ (by rfl) (.tmp 43) (.tmp 57) 50 (by rfl) 5 i0 _ 1 1 Tryd.underlying50 hi hz0 hz1 hz2 rfl (by decide) (.slice A n c) n (Lib.byteCells o) (by rfl) ?hs ⟨_, 0, none⟩ 1 1 [.int .u8 (16 * e1 + e2)] (by rfl) rfl ?hn ?h1 ?hm ?hb ?_; (case hs => repeat (first | exact HSL.out | refine Sl.alloc ?_ _ | refine Sl.drew ?_ | refine Sl.drewN ?_ _)); (case hn => exact news1 (by simp)); (case h1 => simp [Value.oneCell']); (case hm => unfold maxLen; omega); (case hb => omega); intro A2 c2 w7 hs7 ho7 hl7; have HS7 := Lib.hid hs7; have HO7 := Lib.hid (own_later hl7 HOW.out (by have := BR.out.size; simp; omega)); have B7 := Lib.hid (B_only (show B w _ by repeat (first | with_reducible exact BR.out | refine B_alloc ?_ _ | refine B_drew ?_ | refine B_drewN ?_ _)) ho7 HOW.out); clear hs7 ho7 hl7))
              all_goals
                clear v1 v2 w1 w2 w3 w4
                have HS8 := Lib.hid (show Sl w7 5 1 (.slice A2 (n + 1) c2) (n + 1) (Lib.byteCells (o ++ [z])) by rw [byteC_append]; unfold Lib.byteCells at HS7 ⊢; rw [← hz] at HS7; exact HS7.out)
                go_wp2_with fail
                go_roundw
                case rel => exact ⟨o ++ [z], A2, n + 1, c2, j + 2 + 1, by omega, by omega, by push_cast; rfl, rfl, by rw [List.length_append, hon]; rfl, HUT.out, HS8.out, HO7.out, B7.out⟩
                case measure => simp [intOf]; omega
            · have HP := Lib.hid (HBAD.out (fun e => q2 e.2))
              have v1 : decide (e1 < 0) = false := decide_eq_false (by omega)
              have v2 : decide (e2 < 0) = true := decide_eq_true (by omega)
              go_wp2_with fail
              refine (HD1.out _).mono ?_
              rintro e wd ⟨rfl, rfl⟩
              go_wp2_with fail
              refine (HD2.out _).mono ?_
              rintro e wd ⟨rfl, rfl⟩
              go_wp2_with fail
              go_ret2
              exact ⟨by rw [HP.out]; rfl, by repeat (first | with_reducible exact BR.out | refine B_drew ?_ | refine B_drewN ?_ _)⟩
          · have HP := Lib.hid (HBAD.out (fun e => q1 e.1))
            have v1 : decide (e1 < 0) = true := decide_eq_true (by omega)
            go_wp2_with (first | (go_at_call 47; refine (HD1.out _).mono ?_; rintro e wd ⟨rfl, rfl⟩))
            go_ret2
            exact ⟨by rw [HP.out]; rfl, by repeat (first | with_reducible exact BR.out | refine B_drew ?_ | refine B_drewN ?_ _)⟩
      · have t1 : (((s[j]'hjm).toNat : Int) == 92) = false := by
          rw [beq_eq_false_iff_ne]
          intro e
          apply hx
          apply UInt8.toNat_inj.1
          show _ = 92
          omega
        have HUP := Lib.hid (un_plain hjm HUN.out hx)
        clear hx
        generalize s[j]'hjm = x at *
        go_wp2_with (at_builtin; refine wpList_append_sl _ rfl (.tmp 16) (.tmp 20) 50 rfl 5 i0 _ 1 1 Tryd.underlying50 hi hz0 hz1 hz2 rfl (by decide) (.slice A n c) n (Lib.byteCells o) rfl ?hs ⟨_, 0, none⟩ 1 1 [.int .u8 (x.toNat : Int)] rfl rfl ?hn ?h1 ?hm ?hb ?_)
        case hs => repeat (first | with_reducible exact HSL.out | refine Sl.alloc ?_ _)
        case hn => exact news1 (by simp)
        case h1 => simp [Value.oneCell']
        case hm => unfold maxLen; omega
        case hb => omega
        intro A2 c2 w7 hs7 ho7 hl7
        have HS7 := Lib.hid (show Sl w7 5 1 (.slice A2 (n + 1) c2) (n + 1) (Lib.byteCells (o ++ [x])) by rw [byteC_append]; exact hs7)
        have B7 := Lib.hid (show B w w7 from B_only (B_alloc BR.out _) ho7 HOW.out)
        have HOW7 := Lib.hid (lies_newU hl7 HOW.out (B_alloc BR.out _).size)
        clear hs7 ho7 hl7 HSL HOW BR
        go_wp2_with fail
        go_roundw
        case rel => exact ⟨o ++ [x], A2, n + 1, c2, j + 1, by omega, by omega, by push_cast; rfl, rfl, by rw [List.length_append, hon]; rfl, HUP.out, HS7.out, HOW7.out, B7.out⟩
        case measure => simp [intOf]; omega
    · obtain rfl : j = s.size := by omega
      have HEND := Lib.hid (un_end HUN.out)
      have hcv := conv_back HSL.out hon
      have HRE := Lib.hid (fun W => refescape_any (bs o) (by rw [bs_size]; omega) W)
      have HEV := Lib.hid (show (escV (bs o)).data.toList = escL o by unfold escV; rw [bs_list, bs_list])
      generalize escV (bs o) = ev at *
      by_cases he : escL o = s.data.toList
      · have HP := Lib.hid (HEND.out.1 he)
        have t1 : (ev.toList == s.toList) = true := by rw [str_eq, HEV.out]; exact decide_eq_true he
        clear he
        go_wp2_with fail
        refine (HRE.out _).mono ?_
        rintro e wx ⟨rfl, bx⟩
        have BX1 := Lib.hid (show B w wx from (B_trans (by first | exact BR.out | exact B_drew BR.out | exact B_drewN BR.out _) bx))
        have hcv2 := conv_back (HSL.out.b (by first | exact bx | exact B_trans (B_drew (B_refl _)) bx)) hon
        clear bx
        go_wp2_with fail
        go_ret2
        exact ⟨by rw [HP.out]; rfl, by repeat (first | with_reducible exact BX1.out | refine B_drew ?_ | refine B_drewN ?_ _)⟩
      · have HP := Lib.hid (HEND.out.2 he)
        have t1 : (ev.toList == s.toList) = false := by rw [str_eq, HEV.out]; exact decide_eq_false he
        clear he
        go_wp2_with fail
        refine (HRE.out _).mono ?_
        rintro e wx ⟨rfl, bx⟩
        have BX1 := Lib.hid (show B w wx from (B_trans (by first | exact BR.out | exact B_drew BR.out | exact B_drewN BR.out _) bx))
        clear bx
        go_wp2_with fail
        go_ret2
        exact ⟨by rw [HP.out]; rfl, by repeat (first | with_reducible exact BX1.out | refine B_drew ?_ | refine B_drewN ?_ _)⟩
end Go.Proofs.YthalpaggcdpcbaaDoor.Tr
