/- AdminRows returns true, for all names, states and numbers: its walk. -/
import Derived.Test.YtogomkkglcddmaaDoorAdX
import Derived.Test.YtogomkkglcddmaaDoorAdL
namespace Go.Proofs.YtogomkkglcddmaaDoor.Ad
open Go.RowKit Go.Proofs.YtogomkkglcddmaaDoor Go.Proofs.YtogomkkglcddmaaDoor.Nm Go.Proofs.YtogomkkglcddmaaDoor.Cf
set_option maxRecDepth 100000 in
theorem same_nil (w : World) : Calls Tryd.prog 40 #[.slice none 0 0, .slice none 0 0] w fun e w' => e = .returned (.bool true) ∧ w' = w := by
  go_enter Tryd.func40, Tryd.ntmps40
  go_wp2_with fail
  go_loopw [5] (fun i wr => i = .int .i64 0 ∧ Hid (wr = w)) (fun _ _ => 0)
  case atStart => exact ⟨rfl, Lib.hid rfl⟩
  case round =>
    obtain ⟨rfl, hw⟩ := hrel
    go_wp2_with fail
    go_ret
    exact ⟨rfl, hw.out⟩
set_option maxRecDepth 100000 in
set_option maxHeartbeats 2000000 in
theorem same_nums (A B : Option Addr) (c c' n : Nat) (d : List Int) (hd : d.length = n) (hnn : n ≤ 100000) (hc : n ≤ c) (hc' : n ≤ c') (w : World) (hA : NumsAt w A d) (hB : NumsAt w B d) :
    Calls Tryd.prog 40 #[.slice A n c, .slice B n c'] w fun e w' => e = .returned (.bool true) ∧ Below w.heap.size w w' := by
  have HA := Lib.hid hA
  have HB := Lib.hid hB
  have HD := Lib.hid hd
  have hne : ((n : Int) != (n : Int)) = false := by simp
  clear hA hB hd
  go_enter Tryd.func40, Tryd.ntmps40
  go_wp2_with fail
  go_loopw [5] (fun i wr => ∃ k : Nat, k ≤ n ∧ i = .int .i64 k ∧ Below w.heap.size w wr) (fun i _ => n - (intOf i).toNat)
  case atStart => exact ⟨0, Nat.zero_le _, rfl, Below.refl _ _⟩
  case round =>
    obtain ⟨k, hk, rfl, hb⟩ := hrel
    by_cases hlt : k < n
    · have hk1 : (k : Int) < n := by omega
      have hk0 : (0 : Int) ≤ k := by omega
      obtain ⟨v, hv⟩ : ∃ v, d[k]? = some v := ⟨_, List.getElem?_eq_getElem (by have := HD.out; omega)⟩
      obtain ⟨g, o, rfl, h1⟩ := HA.out k v hv
      obtain ⟨g', o', rfl, h2⟩ := HB.out k v hv
      have c1 : wr.cell? ⟨g, o + k, none⟩ = some (.int .i64 v) := (hb.cell (World.block_lt_of_cell? w _ h1)).trans h1
      have c2 : wr.cell? ⟨g', o' + k, none⟩ = some (.int .i64 v) := (hb.cell (World.block_lt_of_cell? w _ h2)).trans h2
      have HBW := Lib.hid hb
      clear hv h1 h2 hb
      have hvv : (v != v) = false := by simp
      go_wp2_with fail
      go_region_with (fail)
      all_goals go_wp2_with fail
      all_goals go_roundw
      all_goals first | (exact ⟨k + 1, by omega, by push_cast; rfl, HBW.out⟩) | (exact ⟨k + 1, by omega, by push_cast; rfl, HBW.out.drew⟩) | (exact ⟨k + 1, by omega, by push_cast; rfl, below_drewN' HBW.out _⟩) | (simp [intOf]; omega)
    · obtain rfl : k = n := by omega
      go_wp2_with fail
      go_ret
      exact ⟨rfl, hb⟩
theorem flat_three : Flat Tryd.prog 61 [.int, .int, .int] := Flat.array (ke := [.int]) Tryd.underlying61 (by kernel_rfl) (Flat.int Tryd.underlying3) (by kernel_rfl) (fun i k hk => by
  match i, hk with
  | 0, hk => exact ⟨by decide, hk⟩
  | 1, hk => exact ⟨by decide, hk⟩
  | 2, hk => exact ⟨by decide, hk⟩
  | i + 3, hk => simp at hk)
theorem three_of {cs : Array Value} (h : cs.size = 3 ∧ ∀ (i : Nat) (k : FK), ([.int, .int, .int] : List FK)[i]? = some k → ∃ u, cs[i]? = some u ∧ leafOk k u) :
    ∃ a b c, cs = #[.int .i64 a, .int .i64 b, .int .i64 c] ∧ (Lit.int .i64 a).wf = true ∧ (Lit.int .i64 b).wf = true ∧ (Lit.int .i64 c).wf = true := by
  obtain ⟨h1, h2⟩ := h
  obtain ⟨u0, g0, l0⟩ := h2 0 .int rfl
  obtain ⟨u1, g1, l1⟩ := h2 1 .int rfl
  obtain ⟨u2, g2, l2⟩ := h2 2 .int rfl
  obtain ⟨a, rfl, ha⟩ := l0
  obtain ⟨b, rfl, hb⟩ := l1
  obtain ⟨c, rfl, hc⟩ := l2
  refine ⟨a, b, c, ?_, ha, hb, hc⟩
  apply Array.ext_getElem?
  intro i
  match i with
  | 0 => exact g0
  | 1 => exact g1
  | 2 => exact g2
  | i + 3 => rw [Array.getElem?_eq_none (by omega), Array.getElem?_eq_none (by simp)]
theorem row_size {name : ByteArray} {st : Int} {a b c : Int} (hn : name.size ≤ 1000) (ha : (Lit.int .i64 a).wf = true) (hb : (Lit.int .i64 b).wf = true) (hc : (Lit.int .i64 c).wf = true) : (rowV name st [a, b, c]).size ≤ 9999 := by
  have h := row_len hn (wordOf_clean st).2 ha hb hc
  unfold rowV joinV
  rw [bs_size]
  exact Nat.le_trans h (by decide)
set_option maxRecDepth 100000 in
set_option maxHeartbeats 4000000 in
theorem rows_walk (w : World) (name0 name s : ByteArray) (st a b c m : Int) (ha : (Lit.int .i64 a).wf = true) (hb : (Lit.int .i64 b).wf = true) (hc : (Lit.int .i64 c).wf = true) (hv : Vars w)
    (hmin : ∀ W ats ty, (Builtin.min_ ats ty #[.int .i64 (name0.size : Int), .int .i64 30]).run Tryd.prog W = .ok (.int .i64 m) W) (hsl : ∀ W, (Instr.slice 9 (.string name0) none (some (.int .i64 m)) none).run Tryd.prog W = .ok (.string name) W)
    (hns : name.size ≤ 1000) (hs : rowV name st [a, b, c] = s) (hss : s.size ≤ 9999) (hr : partsV s = none ∨ ∃ y, partsV s = some (name, y, [a, b, c])) :
    Calls Tryd.prog 12 #[.string name0, .int .i64 st, .agg #[.int .i64 a, .int .i64 b, .int .i64 c]] w fun e w' => e = .returned (.bool true) ∧ Below w.heap.size w w' := by
  have HL := Lib.hid (fun W h => lives_any W h)
  have HV := Lib.hid hv
  have HR := Lib.hid (fun W h => row_any name st a b c hns ha hb hc W h)
  have HRR := Lib.hid (fun W => refrow_any name st a b c hns ha hb hc W)
  have HP := Lib.hid (fun W h => parts_any s hss W h)
  have HQ := Lib.hid (fun W => refparts_any s hss W)
  rw [hs] at HR HRR
  have t1 : (s.toList != s.toList) = false := by simp
  have HA0 := Lib.hid ((Below.refl w.heap.size w).alloc (Nat.le_refl _) (.cells #[.int .i64 a, .int .i64 b, .int .i64 c] 61))
  have HK0 := Lib.hid (Blk.new w 61 #[.int .i64 a, .int .i64 b, .int .i64 c])
  clear hs hv ha hb hc hns hss
  rcases hr with hr | ⟨y, hr⟩
  all_goals
    rw [hr] at HP HQ
    unfold PartsPost at HP HQ
    dsimp only at HP HQ
    clear hr
    go_enter Tryd.func12, Tryd.ntmps12
    go_wp2_with fail
    refine (HL.out _ (varsB (HV.out.below HA0.out))).mono ?_
    rintro e w1 ⟨rfl, b1⟩
    have k1 := Blk.b (by exact HK0.out) b1
    have c0 := k1.cell 0
    have c1 := k1.cell 1
    have c2 := k1.cell 2
    simp at c0 c1 c2
    have B1 := Lib.hid (HA0.out.trans (b1.mono HA0.out.size))
    clear b1
    go_wp2_with fail
    refine (HR.out _ (varsB (HV.out.below B1.out))).mono ?_
    rintro e w2 ⟨rfl, b2⟩
    have k2 := Blk.b (by exact k1) b2
    have d0 := k2.cell 0
    have d1 := k2.cell 1
    have d2 := k2.cell 2
    simp at d0 d1 d2
    have B2 := Lib.hid (B1.out.trans (b2.mono B1.out.size))
    clear b2 k1
    go_wp2_with fail
    refine (HRR.out _).mono ?_
    rintro e w3 ⟨rfl, b3⟩
    have k3 := Blk.b (by exact k2) b3
    have B3 := Lib.hid (B2.out.trans (b3.mono B2.out.size))
    clear b3 k2
    go_wp2_with fail
    refine (HP.out _ (HV.out.below B3.out)).mono ?_
  · rintro e w4 ⟨b4, rfl⟩
    have B4 := Lib.hid (B3.out.trans (b4.mono B3.out.size))
    clear b4 k3
    go_wp2_with fail
    refine (HQ.out _).mono ?_
    rintro e w5 ⟨b5, rfl⟩
    have B5 := Lib.hid (B4.out.trans (b5.mono B4.out.size))
    clear b5
    go_wp2_with fail
    go_quiet ((go_at_call 40; exact Calls.quiet_of_same (same_nil _)))
    go_wp2_with fail
    go_ret
    exact ⟨rfl, by first | exact B5.out | exact B5.out.drew | exact below_drewN' B5.out _⟩
  · rintro e w4 ⟨b4, A, cc, rfl, hcc, hn4, hown4⟩
    have k4 := Blk.b (by exact k3) b4
    have B4 := Lib.hid (B3.out.trans (b4.mono B3.out.size))
    clear b4 k3
    have HN4 := Lib.hid hn4
    clear hn4 hown4
    go_wp2_with fail
    refine (HQ.out _).mono ?_
    rintro e w5 ⟨b5, A', cc', rfl, hcc', hn5, hown5⟩
    have k5 := Blk.b (by exact k4) b5
    have B5 := Lib.hid (B4.out.trans (b5.mono B4.out.size))
    have hn45 := HN4.out.below b5
    have HS := Lib.hid (fun W (hb : B w5 W) => same_nums A A' cc cc' 3 [a, b, c] rfl (by decide) hcc hcc' W (hn45.below hb) (hn5.below hb))
    obtain ⟨g, o, rfl, e0⟩ := hn45 0 a rfl
    obtain ⟨g1, o1, hA1, e1⟩ := hn45 1 b rfl
    cases hA1
    obtain ⟨g2, o2, hA2, e2⟩ := hn45 2 c rfl
    cases hA2
    have hgl := World.block_lt_of_cell? w5 _ e0
    clear b5 k4 hn5 hown5 hn45 HN4
    have HK5 := Lib.hid k5
    clear k5 c0 c1 c2 d0 d1 d2
    have q1 : (name.toList == name.toList) = true := beq_self_eq_true _
    have q2 : (y.toList == y.toList) = true := beq_self_eq_true _
    have HKS := Lib.hid (fun (W : World) (hb : B w5 W) => (⟨⟨(hb.cell (p := ⟨g, o + 0, none⟩) hgl).trans e0, (hb.cell (p := ⟨g, o + 1, none⟩) hgl).trans e1, (hb.cell (p := ⟨g, o + 2, none⟩) hgl).trans e2, ((HK5.out.b hb).cell 0).trans rfl, ((HK5.out.b hb).cell 1).trans rfl, ((HK5.out.b hb).cell 2).trans rfl⟩, hb⟩ :
      (W.cell? ⟨g, o, none⟩ = some (.int .i64 a) ∧ W.cell? ⟨g, o + 1, none⟩ = some (.int .i64 b) ∧ W.cell? ⟨g, o + 2, none⟩ = some (.int .i64 c) ∧ W.cell? ⟨w.heap.size, 0, none⟩ = some (.int .i64 a) ∧ W.cell? ⟨w.heap.size, 1, none⟩ = some (.int .i64 b) ∧ W.cell? ⟨w.heap.size, 2, none⟩ = some (.int .i64 c)) ∧ B w5 W))
    have hb0 : B w5 w5 := B_refl w5
    clear e0 e1 e2 hgl
    go_wp2_with fail
    go_region_held3 (fun W => (W.cell? ⟨g, o, none⟩ = some (.int .i64 a) ∧ W.cell? ⟨g, o + 1, none⟩ = some (.int .i64 b) ∧ W.cell? ⟨g, o + 2, none⟩ = some (.int .i64 c) ∧ W.cell? ⟨w.heap.size, 0, none⟩ = some (.int .i64 a) ∧ W.cell? ⟨w.heap.size, 1, none⟩ = some (.int .i64 b) ∧ W.cell? ⟨w.heap.size, 2, none⟩ = some (.int .i64 c)) ∧ B w5 W) ((refine HKS.out _ ?_; (repeat (first | assumption | exact B_refl _ | refine B_drewN ?_ _ | refine B_drew ?_ | refine B_alloc ?_ _ | refine B_setCell ?_ (by first | (simp; done) | (simp; omega)) _ | refine B_trans ?_ (by assumption))))) ((go_at_call 40; refine (HS.out _ (by (repeat (first | assumption | exact B_refl _ | refine B_drewN ?_ _ | refine B_drew ?_ | refine B_alloc ?_ _ | refine B_setCell ?_ (by first | (simp; done) | (simp; omega)) _ | refine B_trans ?_ (by assumption))))).mono ?_; rintro e w6 ⟨rfl, b6⟩; have bb6 : B w5 w6 := B_trans (by (repeat (first | assumption | exact B_refl _ | refine B_drewN ?_ _ | refine B_drew ?_ | refine B_alloc ?_ _ | refine B_setCell ?_ (by first | (simp; done) | (simp; omega)) _ | refine B_trans ?_ (by assumption)))) b6; clear b6))
    all_goals go_wp2_with fail
    all_goals go_ret
    all_goals exact ⟨rfl, B5.out.trans (bb6.mono B5.out.size)⟩
theorem walk_AdminRows (w : World) (name0 : ByteArray) (_h0 : name0.size ≤ maxLen) (st : Int) (_hst : (Lit.int .i64 st).wf = true) (cs0 : Array Value) (w0 : cs0.size = 3 ∧ ∀ (i : Nat) (k : FK), ([.int, .int, .int] : List FK)[i]? = some k → ∃ u, cs0[i]? = some u ∧ leafOk k u) (hv : Vars w) :
    Calls Tryd.prog 12 #[.string name0, .int .i64 st, .agg cs0] w fun e w' => e = .returned (.bool true) ∧ Below w.heap.size w w' := by
  obtain ⟨a, b, c, rfl, ha, hb, hc⟩ := three_of w0
  obtain ⟨m, name, hmin, hsl, hs⟩ := cut_facts2 30 name0
  refine rows_walk w name0 name _ st a b c m ha hb hc hv hmin hsl (by omega) rfl (row_size (by omega) ha hb hc) ?_
  cases hp : partsV (rowV name st [a, b, c]) with
  | none => exact .inl rfl
  | some r =>
    obtain ⟨x, y, d⟩ := r
    obtain ⟨rfl, rfl⟩ := row_parts rfl hp
    exact .inr ⟨y, rfl⟩
end Go.Proofs.YtogomkkglcddmaaDoor.Ad
