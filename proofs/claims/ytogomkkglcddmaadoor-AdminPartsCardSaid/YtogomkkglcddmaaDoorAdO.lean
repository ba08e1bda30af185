/- The reference's answers, together: its parsing of any line, its printing of any command. -/
import Derived.Test.YtogomkkglcddmaaDoorAdM
import Derived.Test.YtogomkkglcddmaaDoorAdI
import Derived.Test.YtogomkkglcddmaaDoorAdH
namespace Go.Proofs.YtogomkkglcddmaaDoor.Ad
open Go.RowKit Go.Proofs.YtogomkkglcddmaaDoor Go.Proofs.YtogomkkglcddmaaDoor.Nm Go.Proofs.YtogomkkglcddmaaDoor.Cf
attribute [local go_sem ↓ high] exec_cat
attribute [local go_sem] strOf_str
theorem refprint_low (v : Int) (n : ByteArray) (h : v < 0) (w : World) : Calls Tryd.prog 18 #[.agg #[.int .i64 v, .string n]] w (PrintPost v n w) := by
  unfold PrintPost
  rw [print_odd v n (.inl h)]
  have HB := Lib.hid ((Below.refl w.heap.size w).alloc (Nat.le_refl _) (.cells #[.int .i64 v, .string n] 28))
  go_enter Tryd.func18, Tryd.ntmps18
  go_wp2_with fail
  go_ret2
  exact ⟨rfl, HB.out⟩
theorem refprint_high (v : Int) (n : ByteArray) (h0 : 0 ≤ v) (h : 5 < v) (w : World) : Calls Tryd.prog 18 #[.agg #[.int .i64 v, .string n]] w (PrintPost v n w) := by
  unfold PrintPost
  rw [print_odd v n (.inr h)]
  have HB := Lib.hid ((Below.refl w.heap.size w).alloc (Nat.le_refl _) (.cells #[.int .i64 v, .string n] 28))
  go_enter Tryd.func18, Tryd.ntmps18
  go_wp2_with fail
  go_ret2
  exact ⟨rfl, HB.out⟩
theorem refprint_bare_odd (v : Int) (n : ByteArray) (h0 : 4 ≤ v) (h : v ≤ 5) (hn : n.size ≠ 0) (w : World) : Calls Tryd.prog 18 #[.agg #[.int .i64 v, .string n]] w (PrintPost v n w) := by
  have hp : printV v n = (⟨#[]⟩, 12) := by
    unfold printV
    rw [if_pos (by omega)]
    rfl
  unfold PrintPost
  rw [hp]
  have hlo : ¬ v < 0 := by omega
  have hhi : ¬ 5 < v := by omega
  have hne : n.toList.isEmpty = false := by
    rw [ByteArray.toList_eq, List.isEmpty_eq_false_iff]
    intro e
    exact hn (by rw [show n.size = n.data.toList.length from (Array.length_toList).symm, e]; rfl)
  have HB := Lib.hid ((Below.refl w.heap.size w).alloc (Nat.le_refl _) (.cells #[.int .i64 v, .string n] 28))
  clear hp
  go_enter Tryd.func18, Tryd.ntmps18
  go_wp2_with fail
  go_ret2
  exact ⟨rfl, HB.out⟩
set_option maxRecDepth 100000 in
theorem refprint_bare (k : Nat) (n : ByteArray) (h0 : 4 ≤ k) (h : k ≤ 5) (hn : n.size = 0) (w : World) : Calls Tryd.prog 18 #[.agg #[.int .i64 (k : Int), .string n]] w (PrintPost (k : Int) n w) := by
  have hk : k < 6 := by omega
  have hp : printV (k : Int) n = (verbsL.getD k e0, 0) := by
    unfold printV
    rw [if_neg (by omega), if_pos (by omega), verbV_at hk]
  have HVB := Lib.hid (fun W => refverb_any (k : Int) W)
  rw [verbV_at hk] at HVB
  unfold PrintPost
  rw [hp]
  clear hp
  generalize verbsL.getD k e0 = y at *
  obtain rfl := size_zero hn
  have hlo : ¬ (k : Int) < 0 := by omega
  have hhi : ¬ 5 < (k : Int) := by omega
  have h4 : 4 ≤ (k : Int) := by omega
  have hk6 : (k : Int) < 6 := by omega
  have hne : e0.toList.isEmpty = true := by decide +kernel
  generalize e0 = n at *
  have HB := Lib.hid ((Below.refl w.heap.size w).alloc (Nat.le_refl _) (.cells #[.int .i64 (k : Int), .string n] 28))
  have HK := Lib.hid (cmd_box w (k : Int) n 28)
  go_enter Tryd.func18, Tryd.ntmps18
  go_wp2_with fail
  generalize w.alloc (.cells #[.int .i64 (k : Int), .string n] 28) = w1 at *
  have c0 := HK.out.cell 0
  have c1 := HK.out.cell 1
  have cf0 := HK.out.frozen 0
  have cl := HK.out.lt
  simp at c0 c1
  have hb0 : B w1 w1 := B_refl w1
  go_wp2_with fail
  refine (HVB.out _).mono ?_
  rintro e w4 ⟨rfl, b4⟩
  have bb4 : B w1 w4 := b4
  all_goals go_wp2_with fail
  all_goals go_ret2
  all_goals exact ⟨rfl, HB.out.trans (bb4.mono HB.out.size)⟩
set_option maxRecDepth 100000 in
theorem refprint_name_bad (k : Nat) (n : ByteArray) (h : k < 4) (hn : nameB n = false) (hm : n.size ≤ 1000) (w : World) : Calls Tryd.prog 18 #[.agg #[.int .i64 (k : Int), .string n]] w (PrintPost (k : Int) n w) := by
  have hp : printV (k : Int) n = (⟨#[]⟩, 11) := by
    unfold printV
    rw [if_neg (by omega), if_neg (by omega), hn]
    rfl
  unfold PrintPost
  rw [hp]
  clear hp
  have HNM := Lib.hid (refname_nine n (by omega))
  rw [hn] at HNM
  have hlo : ¬ (k : Int) < 0 := by omega
  have hhi : ¬ 5 < (k : Int) := by omega
  have h4 : ¬ 4 ≤ (k : Int) := by omega
  have HB := Lib.hid ((Below.refl w.heap.size w).alloc (Nat.le_refl _) (.cells #[.int .i64 (k : Int), .string n] 28))
  have HK := Lib.hid (cmd_box w (k : Int) n 28)
  go_enter Tryd.func18, Tryd.ntmps18
  go_wp2_with fail
  generalize w.alloc (.cells #[.int .i64 (k : Int), .string n] 28) = w1 at *
  have c0 := HK.out.cell 0
  have c1 := HK.out.cell 1
  have cf0 := HK.out.frozen 0
  have cl := HK.out.lt
  simp at c0 c1
  have hb0 : B w1 w1 := B_refl w1
  go_wp2_with fail
  refine (HNM.out _).mono ?_
  rintro e w2 ⟨rfl, b2⟩
  have B2 := Lib.hid (HB.out.trans (b2.mono HB.out.size))
  clear b2
  go_wp2_with fail
  go_ret2
  exact ⟨rfl, B2.out⟩
set_option maxRecDepth 100000 in
set_option maxHeartbeats 2000000 in
theorem refprint_named (k : Nat) (n : ByteArray) (h : k < 4) (hn : nameB n = true) (hm : n.size ≤ 1000) (w : World) : Calls Tryd.prog 18 #[.agg #[.int .i64 (k : Int), .string n]] w (PrintPost (k : Int) n w) := by
  have hk : k < 6 := by omega
  have hp : printV (k : Int) n = ((verbsL.getD k e0 ++ ⟨#[32]⟩) ++ n, 0) := by
    unfold printV
    rw [if_neg (by omega), if_neg (by omega), hn, if_pos rfl, verbV_at hk, ByteArray.append_assoc]
    rfl
  have hy := (verb_clean ⟨k, hk⟩).2
  simp only at hy
  have HVB := Lib.hid (fun W => refverb_any (k : Int) W)
  rw [verbV_at hk] at HVB
  unfold PrintPost
  rw [hp]
  clear hp
  have HNM := Lib.hid (refname_nine n (by omega))
  rw [hn] at HNM
  generalize verbsL.getD k e0 = y at *
  have cat1 : catOk y ⟨#[32]⟩ := by unfold catOk; show y.size + 1 ≤ _; omega
  have hys : (y ++ ⟨#[32]⟩ : ByteArray).size ≤ 8 := by rw [ByteArray.size_append]; show y.size + 1 ≤ 8; omega
  have cat2 : catOk (y ++ ⟨#[32]⟩) n := by unfold catOk; omega
  have hlo : ¬ (k : Int) < 0 := by omega
  have hhi : ¬ 5 < (k : Int) := by omega
  have h4 : ¬ 4 ≤ (k : Int) := by omega
  have hk6 : (k : Int) < 6 := by omega
  have HB := Lib.hid ((Below.refl w.heap.size w).alloc (Nat.le_refl _) (.cells #[.int .i64 (k : Int), .string n] 28))
  have HK := Lib.hid (cmd_box w (k : Int) n 28)
  go_enter Tryd.func18, Tryd.ntmps18
  go_wp2_with fail
  generalize w.alloc (.cells #[.int .i64 (k : Int), .string n] 28) = w1 at *
  have c0 := HK.out.cell 0
  have c1 := HK.out.cell 1
  have cf0 := HK.out.frozen 0
  have cl := HK.out.lt
  simp at c0 c1
  have hb0 : B w1 w1 := B_refl w1
  go_wp2_with fail
  refine (HNM.out _).mono ?_
  rintro e w2 ⟨rfl, b2⟩
  have HB2 := Lib.hid (HB.out.trans (b2.mono HB.out.size))
  have HK2 := Lib.hid (HK.out.b b2)
  clear b2 hb0 c0 c1 cf0 cl
  have c0 := HK2.out.cell 0
  have c1 := HK2.out.cell 1
  have cf0 := HK2.out.frozen 0
  have cl := HK2.out.lt
  simp at c0 c1
  have hb0 : B w2 w2 := B_refl w2
  go_wp2_with fail
  go_region_with (go_at_call 50; refine (HVB.out _).mono ?_; rintro e w4 ⟨rfl, b4⟩; have bb4 : B w2 w4 := B_trans (by (repeat (first | assumption | exact B_refl _ | refine B_drewN ?_ _ | refine B_drew ?_ | refine B_alloc ?_ _ | refine B_setCell ?_ (by first | (simp; done) | (simp; omega)) _ | refine B_trans ?_ (by assumption)))) b4; have h4b : Blk w4 w.heap.size 28 #[.int .i64 (k : Int), .string n] := HK2.out.b bb4; have d0 := h4b.cell 0; have d1 := h4b.cell 1; simp at d0 d1; clear b4 h4b)
  all_goals go_wp2_with fail
  all_goals go_ret2
  all_goals exact ⟨rfl, HB2.out.trans (bb4.mono HB2.out.size)⟩
theorem refprint_any (v : Int) (n : ByteArray) (hm : n.size ≤ 1000) (w : World) : Calls Tryd.prog 18 #[.agg #[.int .i64 v, .string n]] w (PrintPost v n w) := by
  by_cases h0 : v < 0
  · exact refprint_low v n h0 w
  · by_cases h5 : 5 < v
    · exact refprint_high v n (by omega) h5 w
    · obtain ⟨k, rfl⟩ : ∃ k : Nat, v = k := ⟨v.toNat, by omega⟩
      by_cases h4 : 4 ≤ k
      · by_cases hn : n.size = 0
        · exact refprint_bare k n h4 (by omega) hn w
        · exact refprint_bare_odd (k : Int) n (by omega) (by omega) hn w
      · cases hn : nameB n with
        | false => exact refprint_name_bad k n (by omega) hn hm w
        | true => exact refprint_named k n (by omega) hn hm w
theorem refparse_any (s : ByteArray) (w : World) : Calls Tryd.prog 16 #[.string s] w (ParsePost (parseV s) w) := by
  unfold ParsePost
  by_cases hs : 400 < s.size
  · have e : parseV s = (0, e0, 13) := by unfold parseV; rw [if_pos hs]
    rw [e]
    exact refparse_long s hs w
  · obtain ⟨x, r, hl⟩ := cutV_ne 32 s
    have e : parseV s = parseL (x :: r) := by unfold parseV; rw [if_neg hs, hl]
    rw [e]
    have hs' : s.size ≤ 400 := by omega
    unfold parseL
    rw [List.getD_cons_zero]
    by_cases h0 : idxV x < 0
    · rw [if_pos h0]
      exact refparse_none hs' hl rfl _ rfl h0 w
    · rw [if_neg h0]
      by_cases h4 : 4 ≤ idxV x
      · rw [if_pos h4]
        by_cases h1 : (x :: r).length = 1
        · rw [if_pos h1]
          exact refparse_bare hs' hl rfl _ rfl h4 (by simpa using h1) w
        · rw [if_neg h1]
          exact refparse_bare_more hs' hl rfl _ rfl h4 (by simpa using h1) w
      · rw [if_neg h4]
        by_cases h2 : (x :: r).length = 2
        · rw [if_pos h2]
          obtain ⟨y, hy⟩ : ∃ y, (x :: r)[1]? = some y := ⟨_, List.getElem?_eq_getElem (by omega)⟩
          have hd : (x :: r).getD 1 e0 = y := by rw [List.getD_eq_getElem?_getD, hy]; rfl
          have hys : y.size ≤ 400 := by
            have := cutV_mem (c := 32) (s := s) (x := y) (by rw [hl]; exact List.mem_of_getElem? hy)
            omega
          rw [hd]
          cases hn : nameB y with
          | false =>
            rw [if_neg Bool.false_ne_true]
            exact refparse_named_odd hs' hl rfl _ rfl (by omega) (by omega) (by simpa using h2) hy hys hn w
          | true =>
            rw [if_pos rfl]
            exact refparse_named hs' hl rfl _ rfl (by omega) (by omega) (by simpa using h2) hy hys hn w
        · rw [if_neg h2]
          exact refparse_named_more hs' hl rfl _ rfl (by omega) (by omega) (by simpa using h2) w
end Go.Proofs.YtogomkkglcddmaaDoor.Ad
