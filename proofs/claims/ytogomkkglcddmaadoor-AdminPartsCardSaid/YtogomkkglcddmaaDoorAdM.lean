/- The reference's parsing of any line, and its printing of any command (hostlerref19). -/
import Derived.Test.YtogomkkglcddmaaDoorAdN
import Derived.Test.YtogomkkglcddmaaDoorAdK
import Derived.Test.YtogomkkglcddmaaDoorCrE
namespace Go.Proofs.YtogomkkglcddmaaDoor.Ad
open Go.RowKit Go.Proofs.YtogomkkglcddmaaDoor Go.Proofs.YtogomkkglcddmaaDoor.Nm Go.Proofs.YtogomkkglcddmaaDoor.Cf
theorem words_cons {s x : ByteArray} {r : List ByteArray} {n : Nat} (hl : cutV 32 s = x :: r) (hn : r.length + 1 = n) (hs : s.size ≤ 9999) (w : World) :
    Calls Tryd.prog 49 #[.string s] w fun e w' => ∃ g o cc, e = .returned (.slice (some ⟨g, o, none⟩) n cc) ∧ n ≤ cc ∧ w.heap.size ≤ g ∧ g < w'.heap.size ∧ w'.cell? ⟨g, o, none⟩ = some (.string x) ∧
      (∀ j y, (x :: r)[j]? = some y → w'.cell? ⟨g, o + j, none⟩ = some (.string y)) ∧ B w w' := by
  refine (words_any s hs w).mono ?_
  rintro e w' ⟨A, cc, rfl, hc, hst, hnew, hb⟩
  rw [hl] at hc hst ⊢
  rw [List.length_cons, hn] at hc ⊢
  obtain ⟨g, o, rfl, hlt, hcs⟩ := hst.cells (by simp)
  exact ⟨g, o, cc, rfl, hc, hnew _ rfl, hlt, hcs 0 x rfl, hcs, hb⟩
theorem refparse_ret {tmps : Array Value} {w w1 : World} {b : Nat} {v er : Int} {n : ByteArray} (h2 : tmps.getD 2 undef = .pointer (some ⟨b, 0, none⟩)) (h3 : tmps.getD 3 undef = .int .i64 er)
    (hC : Blk w1 b 28 #[.int .i64 v, .string n]) (hB : Below w.heap.size w w1) :
    bodyPost Tryd.prog Tryd.f16 (fun e w' => e = .returned (.tuple #[.agg #[.int .i64 v, .string n], .int .i64 er]) ∧ Below w.heap.size w w') .ret { tmps := tmps, defers := [] } w1 :=
  bodyPost_ret (results_two Tryd.results16 h2 h3 (loadVar_blk hC _ Tryd.underlying28 rfl (by kernel_rfl))) rfl ⟨rfl, hB⟩
theorem refparse_long (s : ByteArray) (hs : 400 < s.size) (w : World) :
    Calls Tryd.prog 16 #[.string s] w fun e w' => e = .returned (.tuple #[.agg #[.int .i64 0, .string (⟨#[]⟩ : ByteArray)], .int .i64 13]) ∧ Below w.heap.size w w' := by
  have hd : (400 : Int) < s.size := by omega
  have HC := Lib.hid (Blk.new w 28 #[.int .i64 0, .string ⟨#[]⟩])
  have HB := Lib.hid ((Below.refl w.heap.size w).alloc (Nat.le_refl _) (.cells #[.int .i64 0, .string ⟨#[]⟩] 28))
  go_enter Tryd.func16, Tryd.ntmps16
  go_wp2_with fail
  exact refparse_ret rfl rfl HC.out HB.out
set_option maxRecDepth 100000 in
set_option maxHeartbeats 4000000 in
theorem refparse_none {s x : ByteArray} {r : List ByteArray} {n : Nat} (hs : s.size ≤ 400) (hl : cutV 32 s = x :: r) (hn : r.length + 1 = n) (v : Int) (hvx : idxV x = v) (hv0 : v < 0) (w : World) :
    Calls Tryd.prog 16 #[.string s] w fun e w' => e = .returned (.tuple #[.agg #[.int .i64 0, .string ⟨#[]⟩], .int .i64 12]) ∧ Below w.heap.size w w' := by
  have HS := Lib.hid (words_cons hl hn (by omega))
  have HV6 := Lib.hid ((roundV_6 x).trans hvx)
  have hs0 : (s.size : Int) ≤ 400 := by omega
  have hn00 : 0 < n := by omega
  have hn0 : (0 : Int) < (n : Int) := by omega
  have HH := Lib.hid (fun k hk => roundV_hit (x := x) (k := k) hk)
  have HM := Lib.hid (fun k hk => roundV_miss (x := x) (k := k) hk)
  have HR0 := Lib.hid (roundV_0 x)
  clear hl hvx
  go_enter Tryd.func16, Tryd.ntmps16
  go_wp2_with fail
  refine (HS.out _).mono ?_
  rintro e w2 ⟨g, o, cc, rfl, hcap, hgn, hlt, hx0, hx1, b2⟩
  have HC2 := Lib.hid (Blk.b (Blk.new w 28 _) b2)
  have B2 := Lib.hid (((Below.refl w.heap.size w).alloc (Nat.le_refl _) _).trans (b2.mono (by simp)))
  have HX1 := Lib.hid hx1
  clear b2 hx1 HS hgn
  go_wp2_with fail
  go_loopw [5, 6] (fun vb i wr => ∃ k : Nat, k ≤ 6 ∧ vb = .int .i64 (roundV x k) ∧ i = .int .i64 k ∧ Below w2.heap.size w2 wr) (fun _ i _ => 6 - (intOf i).toNat)
  case atStart => exact ⟨0, Nat.zero_le _, by rw [HR0.out], rfl, Below.refl _ _⟩
  case round =>
    obtain ⟨k, hk, rfl, rfl, hb⟩ := hrel
    have HB := Lib.hid hb
    have c0 : wr.cell? ⟨g, o, none⟩ = some (.string x) := (hb.cell (p := ⟨g, o, none⟩) hlt).trans hx0
    by_cases hlt6 : k < 6
    · have hk6 : (k : Int) < 6 := by omega
      have HVB := Lib.hid (verbV_at hlt6)
      have hgr : g < wr.heap.size := Nat.lt_of_lt_of_le hlt hb.size
      clear hb hx0
      by_cases hit : verbsL.getD k e0 = x
      · have HE := Lib.hid (HH.out k hlt6 hit)
        have hq : (x.toList == x.toList) = true := beq_self_eq_true _
        have HIT := Lib.hid hit
        clear hit
        go_wp2_with fail
        go_region_with (go_at_call 50; refine (refverb_any (k : Int) _).mono ?_; rw [HVB.out, HIT.out]; rintro e w4 ⟨rfl, b4⟩; have bb4 : B wr w4 := B_trans (by (repeat (first | assumption | exact B_refl _ | refine B_drewN ?_ _ | refine B_drew ?_ | refine B_alloc ?_ _ | refine B_setCell ?_ (by first | (simp; done) | (simp; omega)) _ | refine B_trans ?_ (by assumption)))) b4; have c4 : w4.cell? ⟨g, o, none⟩ = some (.string x) := (bb4.cell (p := ⟨g, o, none⟩) hgr).trans c0; clear b4)
        all_goals go_wp2_with fail
        all_goals go_roundw
        all_goals first | (exact ⟨k + 1, by omega, by rw [HE.out], by push_cast; rfl, HB.out.trans (bb4.mono HB.out.size)⟩) | (simp [intOf]; omega)
      · have HE := Lib.hid (HM.out k hlt6 hit)
        have hq : ((verbsL.getD k e0).toList == x.toList) = false := (Lib.bytes_beq_false_iff _ _).2 hit
        generalize verbsL.getD k e0 = y at *
        clear hit
        go_wp2_with fail
        go_region_with (go_at_call 50; refine (refverb_any (k : Int) _).mono ?_; rw [HVB.out]; rintro e w4 ⟨rfl, b4⟩; have bb4 : B wr w4 := B_trans (by (repeat (first | assumption | exact B_refl _ | refine B_drewN ?_ _ | refine B_drew ?_ | refine B_alloc ?_ _ | refine B_setCell ?_ (by first | (simp; done) | (simp; omega)) _ | refine B_trans ?_ (by assumption)))) b4; have c4 : w4.cell? ⟨g, o, none⟩ = some (.string x) := (bb4.cell (p := ⟨g, o, none⟩) hgr).trans c0; clear b4)
        all_goals go_wp2_with fail
        all_goals go_roundw
        all_goals first | (exact ⟨k + 1, by omega, by rw [HE.out], by push_cast; rfl, HB.out.trans (bb4.mono HB.out.size)⟩) | (simp [intOf]; omega)
    · obtain rfl : k = 6 := by omega
      rw [HV6.out]
      have hC := Blk.b (HC2.out) hb
      have q0 := hC.cell 0
      have q1 := hC.cell 1
      have q2 := hC.frozen 0
      have q3 := hC.frozen 1
      simp at q0 q1
      have HC := Lib.hid hC
      have HBW := Lib.hid (B2.out.trans (hb.mono B2.out.size))
      have hgr : g < wr.heap.size := Nat.lt_of_lt_of_le hlt hb.size
      have HXW := Lib.hid (fun j y hj => (hb.cell (p := ⟨g, o + j, none⟩) hlt).trans (HX1.out j y hj))
      have hcl := hC.lt
      clear hb hC HB hx0 HX1 HC2 B2 HH HM HR0 hlt
      go_wp2_with fail
      exact refparse_ret rfl rfl ((HC.out.set_ 0 _).set_ 1 _) ((HBW.out.setCell (Nat.le_refl _) _).setCell (Nat.le_refl _) _)
set_option maxRecDepth 100000 in
set_option maxHeartbeats 4000000 in
theorem refparse_bare_more {s x : ByteArray} {r : List ByteArray} {n : Nat} (hs : s.size ≤ 400) (hl : cutV 32 s = x :: r) (hn : r.length + 1 = n) (v : Int) (hvx : idxV x = v) (hv0 : 4 ≤ v) (h1 : n ≠ 1) (w : World) :
    Calls Tryd.prog 16 #[.string s] w fun e w' => e = .returned (.tuple #[.agg #[.int .i64 0, .string ⟨#[]⟩], .int .i64 12]) ∧ Below w.heap.size w w' := by
  have hv00 : 0 ≤ v := by omega
  have hne1 : ((n : Int) != 1) = true := by rw [bne_iff_ne]; omega
  have HS := Lib.hid (words_cons hl hn (by omega))
  have HV6 := Lib.hid ((roundV_6 x).trans hvx)
  have hs0 : (s.size : Int) ≤ 400 := by omega
  have hn00 : 0 < n := by omega
  have hn0 : (0 : Int) < (n : Int) := by omega
  have HH := Lib.hid (fun k hk => roundV_hit (x := x) (k := k) hk)
  have HM := Lib.hid (fun k hk => roundV_miss (x := x) (k := k) hk)
  have HR0 := Lib.hid (roundV_0 x)
  clear hl hvx
  go_enter Tryd.func16, Tryd.ntmps16
  go_wp2_with fail
  refine (HS.out _).mono ?_
  rintro e w2 ⟨g, o, cc, rfl, hcap, hgn, hlt, hx0, hx1, b2⟩
  have HC2 := Lib.hid (Blk.b (Blk.new w 28 _) b2)
  have B2 := Lib.hid (((Below.refl w.heap.size w).alloc (Nat.le_refl _) _).trans (b2.mono (by simp)))
  have HX1 := Lib.hid hx1
  clear b2 hx1 HS hgn
  go_wp2_with fail
  go_loopw [5, 6] (fun vb i wr => ∃ k : Nat, k ≤ 6 ∧ vb = .int .i64 (roundV x k) ∧ i = .int .i64 k ∧ Below w2.heap.size w2 wr) (fun _ i _ => 6 - (intOf i).toNat)
  case atStart => exact ⟨0, Nat.zero_le _, by rw [HR0.out], rfl, Below.refl _ _⟩
  case round =>
    obtain ⟨k, hk, rfl, rfl, hb⟩ := hrel
    have HB := Lib.hid hb
    have c0 : wr.cell? ⟨g, o, none⟩ = some (.string x) := (hb.cell (p := ⟨g, o, none⟩) hlt).trans hx0
    by_cases hlt6 : k < 6
    · have hk6 : (k : Int) < 6 := by omega
      have HVB := Lib.hid (verbV_at hlt6)
      have hgr : g < wr.heap.size := Nat.lt_of_lt_of_le hlt hb.size
      clear hb hx0
      by_cases hit : verbsL.getD k e0 = x
      · have HE := Lib.hid (HH.out k hlt6 hit)
        have hq : (x.toList == x.toList) = true := beq_self_eq_true _
        have HIT := Lib.hid hit
        clear hit
        go_wp2_with fail
        go_region_with (go_at_call 50; refine (refverb_any (k : Int) _).mono ?_; rw [HVB.out, HIT.out]; rintro e w4 ⟨rfl, b4⟩; have bb4 : B wr w4 := B_trans (by (repeat (first | assumption | exact B_refl _ | refine B_drewN ?_ _ | refine B_drew ?_ | refine B_alloc ?_ _ | refine B_setCell ?_ (by first | (simp; done) | (simp; omega)) _ | refine B_trans ?_ (by assumption)))) b4; have c4 : w4.cell? ⟨g, o, none⟩ = some (.string x) := (bb4.cell (p := ⟨g, o, none⟩) hgr).trans c0; clear b4)
        all_goals go_wp2_with fail
        all_goals go_roundw
        all_goals first | (exact ⟨k + 1, by omega, by rw [HE.out], by push_cast; rfl, HB.out.trans (bb4.mono HB.out.size)⟩) | (simp [intOf]; omega)
      · have HE := Lib.hid (HM.out k hlt6 hit)
        have hq : ((verbsL.getD k e0).toList == x.toList) = false := (Lib.bytes_beq_false_iff _ _).2 hit
        generalize verbsL.getD k e0 = y at *
        clear hit
        go_wp2_with fail
        go_region_with (go_at_call 50; refine (refverb_any (k : Int) _).mono ?_; rw [HVB.out]; rintro e w4 ⟨rfl, b4⟩; have bb4 : B wr w4 := B_trans (by (repeat (first | assumption | exact B_refl _ | refine B_drewN ?_ _ | refine B_drew ?_ | refine B_alloc ?_ _ | refine B_setCell ?_ (by first | (simp; done) | (simp; omega)) _ | refine B_trans ?_ (by assumption)))) b4; have c4 : w4.cell? ⟨g, o, none⟩ = some (.string x) := (bb4.cell (p := ⟨g, o, none⟩) hgr).trans c0; clear b4)
        all_goals go_wp2_with fail
        all_goals go_roundw
        all_goals first | (exact ⟨k + 1, by omega, by rw [HE.out], by push_cast; rfl, HB.out.trans (bb4.mono HB.out.size)⟩) | (simp [intOf]; omega)
    · obtain rfl : k = 6 := by omega
      rw [HV6.out]
      have hC := Blk.b (HC2.out) hb
      have q0 := hC.cell 0
      have q1 := hC.cell 1
      have q2 := hC.frozen 0
      have q3 := hC.frozen 1
      simp at q0 q1
      have HC := Lib.hid hC
      have HBW := Lib.hid (B2.out.trans (hb.mono B2.out.size))
      have hgr : g < wr.heap.size := Nat.lt_of_lt_of_le hlt hb.size
      have HXW := Lib.hid (fun j y hj => (hb.cell (p := ⟨g, o + j, none⟩) hlt).trans (HX1.out j y hj))
      have hcl := hC.lt
      clear hb hC HB hx0 HX1 HC2 B2 HH HM HR0 hlt
      go_wp2_with fail
      exact refparse_ret rfl rfl ((HC.out.set_ 0 _).set_ 1 _) ((HBW.out.setCell (Nat.le_refl _) _).setCell (Nat.le_refl _) _)
set_option maxRecDepth 100000 in
set_option maxHeartbeats 4000000 in
theorem refparse_bare {s x : ByteArray} {r : List ByteArray} {n : Nat} (hs : s.size ≤ 400) (hl : cutV 32 s = x :: r) (hn : r.length + 1 = n) (v : Int) (hvx : idxV x = v) (hv0 : 4 ≤ v) (h1 : n = 1) (w : World) :
    Calls Tryd.prog 16 #[.string s] w fun e w' => e = .returned (.tuple #[.agg #[.int .i64 v, .string ⟨#[]⟩], .int .i64 0]) ∧ Below w.heap.size w w' := by
  have hv00 : 0 ≤ v := by omega
  have hne1 : ((n : Int) != 1) = false := by rw [bne_eq_false_iff_eq]; omega
  have HS := Lib.hid (words_cons hl hn (by omega))
  have HV6 := Lib.hid ((roundV_6 x).trans hvx)
  have hs0 : (s.size : Int) ≤ 400 := by omega
  have hn00 : 0 < n := by omega
  have hn0 : (0 : Int) < (n : Int) := by omega
  have HH := Lib.hid (fun k hk => roundV_hit (x := x) (k := k) hk)
  have HM := Lib.hid (fun k hk => roundV_miss (x := x) (k := k) hk)
  have HR0 := Lib.hid (roundV_0 x)
  clear hl hvx
  go_enter Tryd.func16, Tryd.ntmps16
  go_wp2_with fail
  refine (HS.out _).mono ?_
  rintro e w2 ⟨g, o, cc, rfl, hcap, hgn, hlt, hx0, hx1, b2⟩
  have HC2 := Lib.hid (Blk.b (Blk.new w 28 _) b2)
  have B2 := Lib.hid (((Below.refl w.heap.size w).alloc (Nat.le_refl _) _).trans (b2.mono (by simp)))
  have HX1 := Lib.hid hx1
  clear b2 hx1 HS hgn
  go_wp2_with fail
  go_loopw [5, 6] (fun vb i wr => ∃ k : Nat, k ≤ 6 ∧ vb = .int .i64 (roundV x k) ∧ i = .int .i64 k ∧ Below w2.heap.size w2 wr) (fun _ i _ => 6 - (intOf i).toNat)
  case atStart => exact ⟨0, Nat.zero_le _, by rw [HR0.out], rfl, Below.refl _ _⟩
  case round =>
    obtain ⟨k, hk, rfl, rfl, hb⟩ := hrel
    have HB := Lib.hid hb
    have c0 : wr.cell? ⟨g, o, none⟩ = some (.string x) := (hb.cell (p := ⟨g, o, none⟩) hlt).trans hx0
    by_cases hlt6 : k < 6
    · have hk6 : (k : Int) < 6 := by omega
      have HVB := Lib.hid (verbV_at hlt6)
      have hgr : g < wr.heap.size := Nat.lt_of_lt_of_le hlt hb.size
      clear hb hx0
      by_cases hit : verbsL.getD k e0 = x
      · have HE := Lib.hid (HH.out k hlt6 hit)
        have hq : (x.toList == x.toList) = true := beq_self_eq_true _
        have HIT := Lib.hid hit
        clear hit
        go_wp2_with fail
        go_region_with (go_at_call 50; refine (refverb_any (k : Int) _).mono ?_; rw [HVB.out, HIT.out]; rintro e w4 ⟨rfl, b4⟩; have bb4 : B wr w4 := B_trans (by (repeat (first | assumption | exact B_refl _ | refine B_drewN ?_ _ | refine B_drew ?_ | refine B_alloc ?_ _ | refine B_setCell ?_ (by first | (simp; done) | (simp; omega)) _ | refine B_trans ?_ (by assumption)))) b4; have c4 : w4.cell? ⟨g, o, none⟩ = some (.string x) := (bb4.cell (p := ⟨g, o, none⟩) hgr).trans c0; clear b4)
        all_goals go_wp2_with fail
        all_goals go_roundw
        all_goals first | (exact ⟨k + 1, by omega, by rw [HE.out], by push_cast; rfl, HB.out.trans (bb4.mono HB.out.size)⟩) | (simp [intOf]; omega)
      · have HE := Lib.hid (HM.out k hlt6 hit)
        have hq : ((verbsL.getD k e0).toList == x.toList) = false := (Lib.bytes_beq_false_iff _ _).2 hit
        generalize verbsL.getD k e0 = y at *
        clear hit
        go_wp2_with fail
        go_region_with (go_at_call 50; refine (refverb_any (k : Int) _).mono ?_; rw [HVB.out]; rintro e w4 ⟨rfl, b4⟩; have bb4 : B wr w4 := B_trans (by (repeat (first | assumption | exact B_refl _ | refine B_drewN ?_ _ | refine B_drew ?_ | refine B_alloc ?_ _ | refine B_setCell ?_ (by first | (simp; done) | (simp; omega)) _ | refine B_trans ?_ (by assumption)))) b4; have c4 : w4.cell? ⟨g, o, none⟩ = some (.string x) := (bb4.cell (p := ⟨g, o, none⟩) hgr).trans c0; clear b4)
        all_goals go_wp2_with fail
        all_goals go_roundw
        all_goals first | (exact ⟨k + 1, by omega, by rw [HE.out], by push_cast; rfl, HB.out.trans (bb4.mono HB.out.size)⟩) | (simp [intOf]; omega)
    · obtain rfl : k = 6 := by omega
      rw [HV6.out]
      have hC := Blk.b (HC2.out) hb
      have q0 := hC.cell 0
      have q1 := hC.cell 1
      have q2 := hC.frozen 0
      have q3 := hC.frozen 1
      simp at q0 q1
      have HC := Lib.hid hC
      have HBW := Lib.hid (B2.out.trans (hb.mono B2.out.size))
      have hgr : g < wr.heap.size := Nat.lt_of_lt_of_le hlt hb.size
      have HXW := Lib.hid (fun j y hj => (hb.cell (p := ⟨g, o + j, none⟩) hlt).trans (HX1.out j y hj))
      have hcl := hC.lt
      clear hb hC HB hx0 HX1 HC2 B2 HH HM HR0 hlt
      go_wp2_with fail
      exact refparse_ret rfl rfl ((HC.out.set_ 0 _).set_ 1 _) ((HBW.out.setCell (Nat.le_refl _) _).setCell (Nat.le_refl _) _)
set_option maxRecDepth 100000 in
set_option maxHeartbeats 4000000 in
theorem refparse_named_more {s x : ByteArray} {r : List ByteArray} {n : Nat} (hs : s.size ≤ 400) (hl : cutV 32 s = x :: r) (hn : r.length + 1 = n) (v : Int) (hvx : idxV x = v) (hv0 : 0 ≤ v) (hv4 : v < 4) (h1 : n ≠ 2) (w : World) :
    Calls Tryd.prog 16 #[.string s] w fun e w' => e = .returned (.tuple #[.agg #[.int .i64 0, .string ⟨#[]⟩], .int .i64 12]) ∧ Below w.heap.size w w' := by
  have hne2 : ((n : Int) != 2) = true := by rw [bne_iff_ne]; omega
  have HS := Lib.hid (words_cons hl hn (by omega))
  have HV6 := Lib.hid ((roundV_6 x).trans hvx)
  have hs0 : (s.size : Int) ≤ 400 := by omega
  have hn00 : 0 < n := by omega
  have hn0 : (0 : Int) < (n : Int) := by omega
  have HH := Lib.hid (fun k hk => roundV_hit (x := x) (k := k) hk)
  have HM := Lib.hid (fun k hk => roundV_miss (x := x) (k := k) hk)
  have HR0 := Lib.hid (roundV_0 x)
  clear hl hvx
  go_enter Tryd.func16, Tryd.ntmps16
  go_wp2_with fail
  refine (HS.out _).mono ?_
  rintro e w2 ⟨g, o, cc, rfl, hcap, hgn, hlt, hx0, hx1, b2⟩
  have HC2 := Lib.hid (Blk.b (Blk.new w 28 _) b2)
  have B2 := Lib.hid (((Below.refl w.heap.size w).alloc (Nat.le_refl _) _).trans (b2.mono (by simp)))
  have HX1 := Lib.hid hx1
  clear b2 hx1 HS hgn
  go_wp2_with fail
  go_loopw [5, 6] (fun vb i wr => ∃ k : Nat, k ≤ 6 ∧ vb = .int .i64 (roundV x k) ∧ i = .int .i64 k ∧ Below w2.heap.size w2 wr) (fun _ i _ => 6 - (intOf i).toNat)
  case atStart => exact ⟨0, Nat.zero_le _, by rw [HR0.out], rfl, Below.refl _ _⟩
  case round =>
    obtain ⟨k, hk, rfl, rfl, hb⟩ := hrel
    have HB := Lib.hid hb
    have c0 : wr.cell? ⟨g, o, none⟩ = some (.string x) := (hb.cell (p := ⟨g, o, none⟩) hlt).trans hx0
    by_cases hlt6 : k < 6
    · have hk6 : (k : Int) < 6 := by omega
      have HVB := Lib.hid (verbV_at hlt6)
      have hgr : g < wr.heap.size := Nat.lt_of_lt_of_le hlt hb.size
      clear hb hx0
      by_cases hit : verbsL.getD k e0 = x
      · have HE := Lib.hid (HH.out k hlt6 hit)
        have hq : (x.toList == x.toList) = true := beq_self_eq_true _
        have HIT := Lib.hid hit
        clear hit
        go_wp2_with fail
        go_region_with (go_at_call 50; refine (refverb_any (k : Int) _).mono ?_; rw [HVB.out, HIT.out]; rintro e w4 ⟨rfl, b4⟩; have bb4 : B wr w4 := B_trans (by (repeat (first | assumption | exact B_refl _ | refine B_drewN ?_ _ | refine B_drew ?_ | refine B_alloc ?_ _ | refine B_setCell ?_ (by first | (simp; done) | (simp; omega)) _ | refine B_trans ?_ (by assumption)))) b4; have c4 : w4.cell? ⟨g, o, none⟩ = some (.string x) := (bb4.cell (p := ⟨g, o, none⟩) hgr).trans c0; clear b4)
        all_goals go_wp2_with fail
        all_goals go_roundw
        all_goals first | (exact ⟨k + 1, by omega, by rw [HE.out], by push_cast; rfl, HB.out.trans (bb4.mono HB.out.size)⟩) | (simp [intOf]; omega)
      · have HE := Lib.hid (HM.out k hlt6 hit)
        have hq : ((verbsL.getD k e0).toList == x.toList) = false := (Lib.bytes_beq_false_iff _ _).2 hit
        generalize verbsL.getD k e0 = y at *
        clear hit
        go_wp2_with fail
        go_region_with (go_at_call 50; refine (refverb_any (k : Int) _).mono ?_; rw [HVB.out]; rintro e w4 ⟨rfl, b4⟩; have bb4 : B wr w4 := B_trans (by (repeat (first | assumption | exact B_refl _ | refine B_drewN ?_ _ | refine B_drew ?_ | refine B_alloc ?_ _ | refine B_setCell ?_ (by first | (simp; done) | (simp; omega)) _ | refine B_trans ?_ (by assumption)))) b4; have c4 : w4.cell? ⟨g, o, none⟩ = some (.string x) := (bb4.cell (p := ⟨g, o, none⟩) hgr).trans c0; clear b4)
        all_goals go_wp2_with fail
        all_goals go_roundw
        all_goals first | (exact ⟨k + 1, by omega, by rw [HE.out], by push_cast; rfl, HB.out.trans (bb4.mono HB.out.size)⟩) | (simp [intOf]; omega)
    · obtain rfl : k = 6 := by omega
      rw [HV6.out]
      have hC := Blk.b (HC2.out) hb
      have q0 := hC.cell 0
      have q1 := hC.cell 1
      have q2 := hC.frozen 0
      have q3 := hC.frozen 1
      simp at q0 q1
      have HC := Lib.hid hC
      have HBW := Lib.hid (B2.out.trans (hb.mono B2.out.size))
      have hgr : g < wr.heap.size := Nat.lt_of_lt_of_le hlt hb.size
      have HXW := Lib.hid (fun j y hj => (hb.cell (p := ⟨g, o + j, none⟩) hlt).trans (HX1.out j y hj))
      have hcl := hC.lt
      clear hb hC HB hx0 HX1 HC2 B2 HH HM HR0 hlt
      go_wp2_with fail
      exact refparse_ret rfl rfl ((HC.out.set_ 0 _).set_ 1 _) ((HBW.out.setCell (Nat.le_refl _) _).setCell (Nat.le_refl _) _)
set_option maxRecDepth 100000 in
set_option maxHeartbeats 4000000 in
theorem refparse_named_odd {s x y : ByteArray} {r : List ByteArray} {n : Nat} (hs : s.size ≤ 400) (hl : cutV 32 s = x :: r) (hn : r.length + 1 = n) (v : Int) (hvx : idxV x = v) (hv0 : 0 ≤ v) (hv4 : v < 4) (h1 : n = 2) (hr : (x :: r)[1]? = some y) (hys : y.size ≤ 400) (hnm : nameB y = false) (w : World) :
    Calls Tryd.prog 16 #[.string s] w fun e w' => e = .returned (.tuple #[.agg #[.int .i64 0, .string ⟨#[]⟩], .int .i64 11]) ∧ Below w.heap.size w w' := by
  have hn2 : (1 : Int) < (n : Int) := by omega
  have hn2n : 1 < n := by omega
  have hne2 : ((n : Int) != 2) = false := by rw [bne_eq_false_iff_eq]; omega
  have HS := Lib.hid (words_cons hl hn (by omega))
  have HV6 := Lib.hid ((roundV_6 x).trans hvx)
  have hs0 : (s.size : Int) ≤ 400 := by omega
  have hn00 : 0 < n := by omega
  have hn0 : (0 : Int) < (n : Int) := by omega
  have HH := Lib.hid (fun k hk => roundV_hit (x := x) (k := k) hk)
  have HM := Lib.hid (fun k hk => roundV_miss (x := x) (k := k) hk)
  have HR0 := Lib.hid (roundV_0 x)
  clear hl hvx
  go_enter Tryd.func16, Tryd.ntmps16
  go_wp2_with fail
  refine (HS.out _).mono ?_
  rintro e w2 ⟨g, o, cc, rfl, hcap, hgn, hlt, hx0, hx1, b2⟩
  have HC2 := Lib.hid (Blk.b (Blk.new w 28 _) b2)
  have B2 := Lib.hid (((Below.refl w.heap.size w).alloc (Nat.le_refl _) _).trans (b2.mono (by simp)))
  have HX1 := Lib.hid hx1
  clear b2 hx1 HS hgn
  go_wp2_with fail
  go_loopw [5, 6] (fun vb i wr => ∃ k : Nat, k ≤ 6 ∧ vb = .int .i64 (roundV x k) ∧ i = .int .i64 k ∧ Below w2.heap.size w2 wr) (fun _ i _ => 6 - (intOf i).toNat)
  case atStart => exact ⟨0, Nat.zero_le _, by rw [HR0.out], rfl, Below.refl _ _⟩
  case round =>
    obtain ⟨k, hk, rfl, rfl, hb⟩ := hrel
    have HB := Lib.hid hb
    have c0 : wr.cell? ⟨g, o, none⟩ = some (.string x) := (hb.cell (p := ⟨g, o, none⟩) hlt).trans hx0
    by_cases hlt6 : k < 6
    · have hk6 : (k : Int) < 6 := by omega
      have HVB := Lib.hid (verbV_at hlt6)
      have hgr : g < wr.heap.size := Nat.lt_of_lt_of_le hlt hb.size
      clear hb hx0
      by_cases hit : verbsL.getD k e0 = x
      · have HE := Lib.hid (HH.out k hlt6 hit)
        have hq : (x.toList == x.toList) = true := beq_self_eq_true _
        have HIT := Lib.hid hit
        clear hit
        go_wp2_with fail
        go_region_with (go_at_call 50; refine (refverb_any (k : Int) _).mono ?_; rw [HVB.out, HIT.out]; rintro e w4 ⟨rfl, b4⟩; have bb4 : B wr w4 := B_trans (by (repeat (first | assumption | exact B_refl _ | refine B_drewN ?_ _ | refine B_drew ?_ | refine B_alloc ?_ _ | refine B_setCell ?_ (by first | (simp; done) | (simp; omega)) _ | refine B_trans ?_ (by assumption)))) b4; have c4 : w4.cell? ⟨g, o, none⟩ = some (.string x) := (bb4.cell (p := ⟨g, o, none⟩) hgr).trans c0; clear b4)
        all_goals go_wp2_with fail
        all_goals go_roundw
        all_goals first | (exact ⟨k + 1, by omega, by rw [HE.out], by push_cast; rfl, HB.out.trans (bb4.mono HB.out.size)⟩) | (simp [intOf]; omega)
      · have HE := Lib.hid (HM.out k hlt6 hit)
        have hq : ((verbsL.getD k e0).toList == x.toList) = false := (Lib.bytes_beq_false_iff _ _).2 hit
        generalize verbsL.getD k e0 = y at *
        clear hit
        go_wp2_with fail
        go_region_with (go_at_call 50; refine (refverb_any (k : Int) _).mono ?_; rw [HVB.out]; rintro e w4 ⟨rfl, b4⟩; have bb4 : B wr w4 := B_trans (by (repeat (first | assumption | exact B_refl _ | refine B_drewN ?_ _ | refine B_drew ?_ | refine B_alloc ?_ _ | refine B_setCell ?_ (by first | (simp; done) | (simp; omega)) _ | refine B_trans ?_ (by assumption)))) b4; have c4 : w4.cell? ⟨g, o, none⟩ = some (.string x) := (bb4.cell (p := ⟨g, o, none⟩) hgr).trans c0; clear b4)
        all_goals go_wp2_with fail
        all_goals go_roundw
        all_goals first | (exact ⟨k + 1, by omega, by rw [HE.out], by push_cast; rfl, HB.out.trans (bb4.mono HB.out.size)⟩) | (simp [intOf]; omega)
    · obtain rfl : k = 6 := by omega
      rw [HV6.out]
      have hC := Blk.b (HC2.out) hb
      have q0 := hC.cell 0
      have q1 := hC.cell 1
      have q2 := hC.frozen 0
      have q3 := hC.frozen 1
      simp at q0 q1
      have HC := Lib.hid hC
      have HBW := Lib.hid (B2.out.trans (hb.mono B2.out.size))
      have hgr : g < wr.heap.size := Nat.lt_of_lt_of_le hlt hb.size
      have HXW := Lib.hid (fun j y hj => (hb.cell (p := ⟨g, o + j, none⟩) hlt).trans (HX1.out j y hj))
      have hcl := hC.lt
      clear hb hC HB hx0 HX1 HC2 B2 HH HM HR0 hlt
      have hy := HXW.out 1 y hr
      go_wp2_with fail
      refine (refname_nine y (by omega) _).mono ?_
      rintro e w7 ⟨rfl, b7⟩
      rw [hnm]
      have hc7 := Blk.b (HC.out) b7
      have p0 := hc7.cell 0
      have p1 := hc7.cell 1
      have p2 := hc7.frozen 0
      have p3 := hc7.frozen 1
      have hy7 : w7.cell? ⟨g, o + 1, none⟩ = some (.string y) := (b7.cell (p := ⟨g, o + 1, none⟩) hgr).trans hy
      simp at p0 p1
      replace HC := Lib.hid hc7
      replace HBW := Lib.hid (HBW.out.trans (b7.mono HBW.out.size))
      clear hc7 b7
      go_wp2_with fail
      exact refparse_ret rfl rfl ((HC.out.set_ 0 _).set_ 1 _) ((HBW.out.setCell (Nat.le_refl _) _).setCell (Nat.le_refl _) _)
set_option maxRecDepth 100000 in
set_option maxHeartbeats 4000000 in
theorem refparse_named {s x y : ByteArray} {r : List ByteArray} {n : Nat} (hs : s.size ≤ 400) (hl : cutV 32 s = x :: r) (hn : r.length + 1 = n) (v : Int) (hvx : idxV x = v) (hv0 : 0 ≤ v) (hv4 : v < 4) (h1 : n = 2) (hr : (x :: r)[1]? = some y) (hys : y.size ≤ 400) (hnm : nameB y = true) (w : World) :
    Calls Tryd.prog 16 #[.string s] w fun e w' => e = .returned (.tuple #[.agg #[.int .i64 v, .string y], .int .i64 0]) ∧ Below w.heap.size w w' := by
  have hn2 : (1 : Int) < (n : Int) := by omega
  have hn2n : 1 < n := by omega
  have hne2 : ((n : Int) != 2) = false := by rw [bne_eq_false_iff_eq]; omega
  have HS := Lib.hid (words_cons hl hn (by omega))
  have HV6 := Lib.hid ((roundV_6 x).trans hvx)
  have hs0 : (s.size : Int) ≤ 400 := by omega
  have hn00 : 0 < n := by omega
  have hn0 : (0 : Int) < (n : Int) := by omega
  have HH := Lib.hid (fun k hk => roundV_hit (x := x) (k := k) hk)
  have HM := Lib.hid (fun k hk => roundV_miss (x := x) (k := k) hk)
  have HR0 := Lib.hid (roundV_0 x)
  clear hl hvx
  go_enter Tryd.func16, Tryd.ntmps16
  go_wp2_with fail
  refine (HS.out _).mono ?_
  rintro e w2 ⟨g, o, cc, rfl, hcap, hgn, hlt, hx0, hx1, b2⟩
  have HC2 := Lib.hid (Blk.b (Blk.new w 28 _) b2)
  have B2 := Lib.hid (((Below.refl w.heap.size w).alloc (Nat.le_refl _) _).trans (b2.mono (by simp)))
  have HX1 := Lib.hid hx1
  clear b2 hx1 HS hgn
  go_wp2_with fail
  go_loopw [5, 6] (fun vb i wr => ∃ k : Nat, k ≤ 6 ∧ vb = .int .i64 (roundV x k) ∧ i = .int .i64 k ∧ Below w2.heap.size w2 wr) (fun _ i _ => 6 - (intOf i).toNat)
  case atStart => exact ⟨0, Nat.zero_le _, by rw [HR0.out], rfl, Below.refl _ _⟩
  case round =>
    obtain ⟨k, hk, rfl, rfl, hb⟩ := hrel
    have HB := Lib.hid hb
    have c0 : wr.cell? ⟨g, o, none⟩ = some (.string x) := (hb.cell (p := ⟨g, o, none⟩) hlt).trans hx0
    by_cases hlt6 : k < 6
    · have hk6 : (k : Int) < 6 := by omega
      have HVB := Lib.hid (verbV_at hlt6)
      have hgr : g < wr.heap.size := Nat.lt_of_lt_of_le hlt hb.size
      clear hb hx0
      by_cases hit : verbsL.getD k e0 = x
      · have HE := Lib.hid (HH.out k hlt6 hit)
        have hq : (x.toList == x.toList) = true := beq_self_eq_true _
        have HIT := Lib.hid hit
        clear hit
        go_wp2_with fail
        go_region_with (go_at_call 50; refine (refverb_any (k : Int) _).mono ?_; rw [HVB.out, HIT.out]; rintro e w4 ⟨rfl, b4⟩; have bb4 : B wr w4 := B_trans (by (repeat (first | assumption | exact B_refl _ | refine B_drewN ?_ _ | refine B_drew ?_ | refine B_alloc ?_ _ | refine B_setCell ?_ (by first | (simp; done) | (simp; omega)) _ | refine B_trans ?_ (by assumption)))) b4; have c4 : w4.cell? ⟨g, o, none⟩ = some (.string x) := (bb4.cell (p := ⟨g, o, none⟩) hgr).trans c0; clear b4)
        all_goals go_wp2_with fail
        all_goals go_roundw
        all_goals first | (exact ⟨k + 1, by omega, by rw [HE.out], by push_cast; rfl, HB.out.trans (bb4.mono HB.out.size)⟩) | (simp [intOf]; omega)
      · have HE := Lib.hid (HM.out k hlt6 hit)
        have hq : ((verbsL.getD k e0).toList == x.toList) = false := (Lib.bytes_beq_false_iff _ _).2 hit
        generalize verbsL.getD k e0 = y at *
        clear hit
        go_wp2_with fail
        go_region_with (go_at_call 50; refine (refverb_any (k : Int) _).mono ?_; rw [HVB.out]; rintro e w4 ⟨rfl, b4⟩; have bb4 : B wr w4 := B_trans (by (repeat (first | assumption | exact B_refl _ | refine B_drewN ?_ _ | refine B_drew ?_ | refine B_alloc ?_ _ | refine B_setCell ?_ (by first | (simp; done) | (simp; omega)) _ | refine B_trans ?_ (by assumption)))) b4; have c4 : w4.cell? ⟨g, o, none⟩ = some (.string x) := (bb4.cell (p := ⟨g, o, none⟩) hgr).trans c0; clear b4)
        all_goals go_wp2_with fail
        all_goals go_roundw
        all_goals first | (exact ⟨k + 1, by omega, by rw [HE.out], by push_cast; rfl, HB.out.trans (bb4.mono HB.out.size)⟩) | (simp [intOf]; omega)
    · obtain rfl : k = 6 := by omega
      rw [HV6.out]
      have hC := Blk.b (HC2.out) hb
      have q0 := hC.cell 0
      have q1 := hC.cell 1
      have q2 := hC.frozen 0
      have q3 := hC.frozen 1
      simp at q0 q1
      have HC := Lib.hid hC
      have HBW := Lib.hid (B2.out.trans (hb.mono B2.out.size))
      have hgr : g < wr.heap.size := Nat.lt_of_lt_of_le hlt hb.size
      have HXW := Lib.hid (fun j y hj => (hb.cell (p := ⟨g, o + j, none⟩) hlt).trans (HX1.out j y hj))
      have hcl := hC.lt
      clear hb hC HB hx0 HX1 HC2 B2 HH HM HR0 hlt
      have hy := HXW.out 1 y hr
      go_wp2_with fail
      refine (refname_nine y (by omega) _).mono ?_
      rintro e w7 ⟨rfl, b7⟩
      rw [hnm]
      have hc7 := Blk.b (HC.out) b7
      have p0 := hc7.cell 0
      have p1 := hc7.cell 1
      have p2 := hc7.frozen 0
      have p3 := hc7.frozen 1
      have hy7 : w7.cell? ⟨g, o + 1, none⟩ = some (.string y) := (b7.cell (p := ⟨g, o + 1, none⟩) hgr).trans hy
      simp at p0 p1
      replace HC := Lib.hid hc7
      replace HBW := Lib.hid (HBW.out.trans (b7.mono HBW.out.size))
      clear hc7 b7
      go_wp2_with fail
      exact refparse_ret rfl rfl ((HC.out.set_ 0 _).set_ 1 _) ((HBW.out.setCell (Nat.le_refl _) _).setCell (Nat.le_refl _) _)
end Go.Proofs.YtogomkkglcddmaaDoor.Ad
