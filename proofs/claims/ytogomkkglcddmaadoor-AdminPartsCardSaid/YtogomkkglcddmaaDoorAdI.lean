/- admin.Print and the reference's: the line of any command. -/
import Derived.Test.YtogomkkglcddmaaDoorAdP
import Derived.Test.YtogomkkglcddmaaDoorAdN
namespace Go.Proofs.YtogomkkglcddmaaDoor.Ad
open Go.RowKit Go.Proofs.YtogomkkglcddmaaDoor Go.Proofs.YtogomkkglcddmaaDoor.Nm Go.Proofs.YtogomkkglcddmaaDoor.Cf
attribute [local go_sem ↓ high] exec_cat
attribute [local go_sem] strOf_str
theorem name_all (s : ByteArray) (w : World) : Calls Tryd.prog 48 #[.string s] w fun e w' => e = .returned (.bool (nameB s)) ∧ Below w.heap.size w w' := by
  by_cases hm : s.size ≤ 1000
  · exact name_any s hm w
  · have h1 : ¬ s.size ≤ 16 := by omega
    have h0 : s.size ≠ 0 := by omega
    have hne : s.toList.isEmpty = false := by
      rw [ByteArray.toList_eq, List.isEmpty_eq_false_iff]
      intro e
      exact h0 (by rw [show s.size = s.data.toList.length from (Array.length_toList).symm, e]; rfl)
    have hf : nameB s = false := by unfold nameB; simp [h1]
    rw [hf]
    go_enter Tryd.func48, Tryd.ntmps48
    go_wp2
    go_ret
    exact ⟨rfl, Below.refl _ _⟩
theorem verb_cell {k : Nat} (hk : k < 6) : (encS verbsL).toArray[k]? = some (.string (verbsL.getD k e0)) := by
  match k, hk with
  | 0, _ | 1, _ | 2, _ | 3, _ | 4, _ | 5, _ => rfl
theorem cmd_box (w : World) (v : Int) (n : ByteArray) (t : TypeId) : Blk (w.alloc (.cells #[.int .i64 v, .string n] t)) w.heap.size t #[.int .i64 v, .string n] := Blk.new _ _ _
def PrintPost (v : Int) (n : ByteArray) (w : World) (e : Ending) (w' : World) : Prop := e = .returned (.tuple #[.string (printV v n).1, .int .i64 (printV v n).2]) ∧ Below w.heap.size w w'
theorem print_odd (v : Int) (n : ByteArray) (h : v < 0 ∨ 5 < v) : printV v n = (⟨#[]⟩, 12) := by
  unfold printV
  rw [if_pos (by omega)]
  rfl
theorem print_low (v : Int) (n : ByteArray) (h : v < 0) (w : World) : Calls Tryd.prog 17 #[.agg #[.int .i64 v, .string n]] w (PrintPost v n w) := by
  unfold PrintPost
  rw [print_odd v n (.inl h)]
  have HB := Lib.hid ((Below.refl w.heap.size w).alloc (Nat.le_refl _) (.cells #[.int .i64 v, .string n] 24))
  go_enter Tryd.func17, Tryd.ntmps17
  go_wp2_with fail
  go_ret2
  exact ⟨rfl, HB.out⟩
theorem print_high (v : Int) (n : ByteArray) (h0 : 0 ≤ v) (h : 5 < v) (w : World) : Calls Tryd.prog 17 #[.agg #[.int .i64 v, .string n]] w (PrintPost v n w) := by
  unfold PrintPost
  rw [print_odd v n (.inr h)]
  have HB := Lib.hid ((Below.refl w.heap.size w).alloc (Nat.le_refl _) (.cells #[.int .i64 v, .string n] 24))
  go_enter Tryd.func17, Tryd.ntmps17
  go_wp2_with fail
  go_ret2
  exact ⟨rfl, HB.out⟩
theorem print_bare_odd (v : Int) (n : ByteArray) (h0 : 4 ≤ v) (h : v ≤ 5) (hn : n.size ≠ 0) (w : World) : Calls Tryd.prog 17 #[.agg #[.int .i64 v, .string n]] w (PrintPost v n w) := by
  have hp : printV v n = (⟨#[]⟩, 12) := by
    unfold printV
    rw [if_pos (by omega)]
    rfl
  unfold PrintPost
  rw [hp]
  have hlo : ¬ v < 0 := by omega
  have hhi : ¬ 5 < v := by omega
  have hne : n.toList.isEmpty = false := by
    rw [ByteArray.toList_eq, List.isEmpty_eq_false_iff]
    intro e
    exact hn (by rw [show n.size = n.data.toList.length from (Array.length_toList).symm, e]; rfl)
  have HB := Lib.hid ((Below.refl w.heap.size w).alloc (Nat.le_refl _) (.cells #[.int .i64 v, .string n] 24))
  clear hp
  go_enter Tryd.func17, Tryd.ntmps17
  go_wp2_with fail
  refine (bare_same v _).mono ?_
  rintro e w1 ⟨rfl, rfl⟩
  go_wp2_with fail
  go_ret2
  exact ⟨rfl, HB.out⟩
set_option maxRecDepth 100000 in
theorem print_bare (k : Nat) (n : ByteArray) (h0 : 4 ≤ k) (h : k ≤ 5) (hn : n.size = 0) (w : World) : Calls Tryd.prog 17 #[.agg #[.int .i64 (k : Int), .string n]] w (PrintPost (k : Int) n w) := by
  have hk : k < 6 := by omega
  have hp : printV (k : Int) n = (verbsL.getD k e0, 0) := by
    unfold printV
    rw [if_neg (by omega), if_pos (by omega), verbV_at hk]
  have HVC := Lib.hid (verb_cell hk)
  unfold PrintPost
  rw [hp]
  clear hp
  generalize verbsL.getD k e0 = y at *
  obtain rfl := size_zero hn
  have hlo : ¬ (k : Int) < 0 := by omega
  have hhi : ¬ 5 < (k : Int) := by omega
  have h4 : 4 ≤ (k : Int) := by omega
  have hk6 : (k : Int) < 6 := by omega
  have hne : e0.toList.isEmpty = true := by decide +kernel
  generalize e0 = n at *
  have HB := Lib.hid ((Below.refl w.heap.size w).alloc (Nat.le_refl _) (.cells #[.int .i64 (k : Int), .string n] 24))
  have HK := Lib.hid (cmd_box w (k : Int) n 24)
  go_enter Tryd.func17, Tryd.ntmps17
  go_wp2_with fail
  refine (bare_same _ _).mono ?_
  rintro e w1 ⟨rfl, rfl⟩
  go_wp2_with fail
  refine (bare_same _ _).mono ?_
  rintro e w1 ⟨rfl, rfl⟩
  generalize w.alloc (.cells #[.int .i64 (k : Int), .string n] 24) = w1 at *
  have c0 := HK.out.cell 0
  have c1 := HK.out.cell 1
  have cf0 := HK.out.frozen 0
  have cl := HK.out.lt
  simp at c0 c1
  have hb0 : B w1 w1 := B_refl w1
  go_wp2_with fail
  go_region_with (go_at_call 46; refine (verbs_any _).mono ?_; rintro e w4 ⟨gv, cv, rfl, hcv, hgv, hbv, b4⟩; have bb4 : B w1 w4 := B_trans (by (repeat (first | assumption | exact B_refl _ | refine B_drewN ?_ _ | refine B_drew ?_ | refine B_alloc ?_ _ | refine B_setCell ?_ (by first | (simp; done) | (simp; omega)) _ | refine B_trans ?_ (by assumption)))) b4; have kv : w4.cell? ⟨gv, k, none⟩ = some (.string y) := (hbv.cell k).trans HVC.out; have h4b : Blk w4 w.heap.size 24 #[.int .i64 (k : Int), .string n] := HK.out.b bb4; have d0 := h4b.cell 0; have d1 := h4b.cell 1; simp at d0 d1; clear hbv b4 hgv hcv h4b)
  all_goals go_wp2_with fail
  all_goals go_ret2
  all_goals exact ⟨rfl, HB.out.trans (bb4.mono HB.out.size)⟩
set_option maxRecDepth 100000 in
theorem print_name_bad (k : Nat) (n : ByteArray) (h : k < 4) (hn : nameB n = false) (w : World) : Calls Tryd.prog 17 #[.agg #[.int .i64 (k : Int), .string n]] w (PrintPost (k : Int) n w) := by
  have hp : printV (k : Int) n = (⟨#[]⟩, 11) := by
    unfold printV
    rw [if_neg (by omega), if_neg (by omega), hn]
    rfl
  unfold PrintPost
  rw [hp]
  clear hp
  have HNM := Lib.hid (name_all n)
  rw [hn] at HNM
  have hlo : ¬ (k : Int) < 0 := by omega
  have hhi : ¬ 5 < (k : Int) := by omega
  have h4 : ¬ 4 ≤ (k : Int) := by omega
  have HB := Lib.hid ((Below.refl w.heap.size w).alloc (Nat.le_refl _) (.cells #[.int .i64 (k : Int), .string n] 24))
  have HK := Lib.hid (cmd_box w (k : Int) n 24)
  go_enter Tryd.func17, Tryd.ntmps17
  go_wp2_with fail
  refine (bare_same _ _).mono ?_
  rintro e w1 ⟨rfl, rfl⟩
  go_wp2_with fail
  refine (bare_same _ _).mono ?_
  rintro e w1 ⟨rfl, rfl⟩
  generalize w.alloc (.cells #[.int .i64 (k : Int), .string n] 24) = w1 at *
  have c0 := HK.out.cell 0
  have c1 := HK.out.cell 1
  have cf0 := HK.out.frozen 0
  have cl := HK.out.lt
  simp at c0 c1
  have hb0 : B w1 w1 := B_refl w1
  go_wp2_with fail
  refine (HNM.out _).mono ?_
  rintro e w2 ⟨rfl, b2⟩
  have B2 := Lib.hid (HB.out.trans (b2.mono HB.out.size))
  clear b2
  go_wp2_with fail
  go_ret2
  exact ⟨rfl, B2.out⟩
set_option maxRecDepth 100000 in
set_option maxHeartbeats 2000000 in
theorem print_named (k : Nat) (n : ByteArray) (h : k < 4) (hn : nameB n = true) (w : World) : Calls Tryd.prog 17 #[.agg #[.int .i64 (k : Int), .string n]] w (PrintPost (k : Int) n w) := by
  have hk : k < 6 := by omega
  have hp : printV (k : Int) n = ((verbsL.getD k e0 ++ ⟨#[32]⟩) ++ n, 0) := by
    unfold printV
    rw [if_neg (by omega), if_neg (by omega), hn, if_pos rfl, verbV_at hk, ByteArray.append_assoc]
    rfl
  have hy := (verb_clean ⟨k, hk⟩).2
  simp only at hy
  have HVC := Lib.hid (verb_cell hk)
  unfold PrintPost
  rw [hp]
  clear hp
  have HNM := Lib.hid (name_all n)
  rw [hn] at HNM
  generalize verbsL.getD k e0 = y at *
  have hm := (name_clean hn).2.1
  have cat1 : catOk y ⟨#[32]⟩ := by unfold catOk; show y.size + 1 ≤ _; omega
  have hys : (y ++ ⟨#[32]⟩ : ByteArray).size ≤ 8 := by rw [ByteArray.size_append]; show y.size + 1 ≤ 8; omega
  have cat2 : catOk (y ++ ⟨#[32]⟩) n := by unfold catOk; omega
  have hlo : ¬ (k : Int) < 0 := by omega
  have hhi : ¬ 5 < (k : Int) := by omega
  have h4 : ¬ 4 ≤ (k : Int) := by omega
  have hk6 : (k : Int) < 6 := by omega
  have HB := Lib.hid ((Below.refl w.heap.size w).alloc (Nat.le_refl _) (.cells #[.int .i64 (k : Int), .string n] 24))
  have HK := Lib.hid (cmd_box w (k : Int) n 24)
  go_enter Tryd.func17, Tryd.ntmps17
  go_wp2_with fail
  refine (bare_same _ _).mono ?_
  rintro e w1 ⟨rfl, rfl⟩
  go_wp2_with fail
  refine (bare_same _ _).mono ?_
  rintro e w1 ⟨rfl, rfl⟩
  generalize w.alloc (.cells #[.int .i64 (k : Int), .string n] 24) = w1 at *
  have c0 := HK.out.cell 0
  have c1 := HK.out.cell 1
  have cf0 := HK.out.frozen 0
  have cl := HK.out.lt
  simp at c0 c1
  have hb0 : B w1 w1 := B_refl w1
  go_wp2_with fail
  refine (HNM.out _).mono ?_
  rintro e w2 ⟨rfl, b2⟩
  have HB2 := Lib.hid (HB.out.trans (b2.mono HB.out.size))
  have HK2 := Lib.hid (HK.out.b b2)
  clear b2 hb0 c0 c1 cf0 cl
  have c0 := HK2.out.cell 0
  have c1 := HK2.out.cell 1
  have cf0 := HK2.out.frozen 0
  have cl := HK2.out.lt
  simp at c0 c1
  have hb0 : B w2 w2 := B_refl w2
  go_wp2_with fail
  go_region_with (go_at_call 46; refine (verbs_any _).mono ?_; rintro e w4 ⟨gv, cv, rfl, hcv, hgv, hbv, b4⟩; have bb4 : B w2 w4 := B_trans (by (repeat (first | assumption | exact B_refl _ | refine B_drewN ?_ _ | refine B_drew ?_ | refine B_alloc ?_ _ | refine B_setCell ?_ (by first | (simp; done) | (simp; omega)) _ | refine B_trans ?_ (by assumption)))) b4; have kv : w4.cell? ⟨gv, k, none⟩ = some (.string y) := (hbv.cell k).trans HVC.out; have h4b : Blk w4 w.heap.size 24 #[.int .i64 (k : Int), .string n] := HK2.out.b bb4; have d0 := h4b.cell 0; have d1 := h4b.cell 1; simp at d0 d1; clear hbv b4 hgv hcv h4b)
  all_goals go_wp2_with fail
  all_goals go_ret2
  all_goals exact ⟨rfl, HB2.out.trans (bb4.mono HB2.out.size)⟩
theorem print_any (v : Int) (n : ByteArray) (w : World) : Calls Tryd.prog 17 #[.agg #[.int .i64 v, .string n]] w (PrintPost v n w) := by
  by_cases h0 : v < 0
  · exact print_low v n h0 w
  · by_cases h5 : 5 < v
    · exact print_high v n (by omega) h5 w
    · obtain ⟨k, rfl⟩ : ∃ k : Nat, v = k := ⟨v.toNat, by omega⟩
      by_cases h4 : 4 ≤ k
      · by_cases hn : n.size = 0
        · exact print_bare k n h4 (by omega) hn w
        · exact print_bare_odd (k : Int) n (by omega) (by omega) hn w
      · cases hn : nameB n with
        | false => exact print_name_bad k n (by omega) hn w
        | true => exact print_named k n (by omega) hn w
end Go.Proofs.YtogomkkglcddmaaDoor.Ad
