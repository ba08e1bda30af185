/- admin.Parse at lines that aren't too long. -/
import Derived.Test.YtogomkkglcddmaaDoorAdN
namespace Go.Proofs.YtogomkkglcddmaaDoor.Ad
open Go.RowKit Go.Proofs.YtogomkkglcddmaaDoor Go.Proofs.YtogomkkglcddmaaDoor.Nm Go.Proofs.YtogomkkglcddmaaDoor.Cf
set_option maxRecDepth 100000 in
set_option maxHeartbeats 2000000 in
/-- No verb's word. -/
theorem parse_none {s x : ByteArray} {r : List ByteArray} {n : Nat} (hs : s.size ≤ 400) (hl : cutV 32 s = x :: r) (hn : r.length + 1 = n) (v : Int) (hvx : idxV x = v) (hv0 : ¬ 0 ≤ v) (w : World) (hv : VarsB w) :
    Calls Tryd.prog 15 #[.string s] w fun e w' => e = .returned (.tuple #[.agg #[.int .i64 0, .string ⟨#[]⟩], .int .i64 12]) ∧ Below w.heap.size w w' := by
  have hm1 : v = -1 := by have := idxV_range x; omega
  subst hm1
  clear hv0
  have hmf : ∀ (fn : Fn) (first cap : Array Value) (w : World), (Instr.makeFunc fn first cap).run Tryd.prog w = .ok (.func fn first cap) w := fun _ _ _ _ => rfl
  have hd : (s.size : Int) ≤ 400 := by omega
  have HS := Lib.hid (split_cons hl hn (by omega))
  have HI := Lib.hid (fun g c W => verb_index g c x W)
  rw [show Lib.idxOfS verbsL x = (-1) from hvx] at HI
  have HV := Lib.hid hv
  clear hl hvx hv
  go_enter_defers Tryd.func15, Tryd.ntmps15
  go_wp2_with fail
  refine (must_yes _ _).mono ?_
  rintro e w1 ⟨rfl, rfl⟩
  go_wp2_with fail
  refine (HS.out _ (HV.out.below (((Below.refl _ _).alloc (Nat.le_refl _) _).alloc (by simp) _))).mono ?_
  rintro e w2 ⟨g, o, cc, rfl, hcap, hgn, hlt, hx0, hx1, b2⟩
  have hgn : w.heap.size + 2 ≤ g := by simpa using hgn
  have hw2 : w.heap.size + 2 ≤ w2.heap.size := by have := b2.size; simpa using this
  have hC2 : Blk w2 w.heap.size 24 #[.int .i64 0, .string ⟨#[]⟩] := Blk.b ((Blk.new _ _ _).alloc _) b2
  have hE2 : Blk w2 (w.heap.size + 1) 25 #[.int .i64 0] := Blk.b (heap_at_new _ (by simp)) b2
  have B2 := Lib.hid ((((Below.refl w.heap.size w).alloc (Nat.le_refl _) _).alloc (by simp) _).trans (b2.mono (by simp; omega)))
  clear b2
  have HC2 := Lib.hid hC2
  have HE2 := Lib.hid hE2
  have HX1 := Lib.hid hx1
  clear hC2 hE2 hx1 HS
  have hn1 : 1 ≤ n := by omega
  have hn1' : (1 : Int) ≤ (n : Int) := by omega
  have hn0 : (0 : Int) < (n : Int) := by omega
  go_wp2_with fail
  have hn00 : 0 < n := by omega
  have hgc : g ≠ w.heap.size := by omega
  have HKS := Lib.hid (fun (W : World) (hb : Only (fun b => b = w.heap.size) w2 W) => (⟨(hb.cell (a := ⟨g, o, none⟩) hlt hgc).trans hx0, hb⟩ : W.cell? ⟨g, o, none⟩ = some (.string x) ∧ Only (fun b => b = w.heap.size) w2 W))
  have hb0 : Only (fun b => b = w.heap.size) w2 w2 := Only.refl _ w2
  go_region_held3 (fun W => W.cell? ⟨g, o, none⟩ = some (.string x) ∧ Only (fun b => b = w.heap.size) w2 W) ((refine HKS.out _ ?_; (repeat (first | with_reducible assumption | with_reducible exact Only.refl _ _ | with_reducible refine Only.drewN ?_ _ | with_reducible refine Only.drew ?_ | with_reducible refine Only.alloc ?_ _ | refine Only.setCell ?_ (by exact Or.inl rfl) _)))) (first | (go_at_call 46; refine (verbs_any _).mono ?_; rintro e w4 ⟨gv, cv, rfl, hcv, hgv, hbv, b4⟩; have bb4 : Only (fun b => b = w.heap.size) w2 w4 := Only.trans (by (repeat (first | with_reducible assumption | with_reducible exact Only.refl _ _ | with_reducible refine Only.drewN ?_ _ | with_reducible refine Only.drew ?_ | with_reducible refine Only.alloc ?_ _ | refine Only.setCell ?_ (by exact Or.inl rfl) _))) (Only.of_B b4); have hc4 : Blk w4 w.heap.size 24 #[.int .i64 0, .string ⟨#[]⟩] := Blk.b (by exact HC2.out) b4; have kc0 := hc4.cell 0; have kc1 := hc4.cell 1; have kf0 := hc4.frozen 0; have kf1 := hc4.frozen 1; have kl := hc4.lt; simp at kc0 kc1; have HBV := Lib.hid hbv; have HC4 := Lib.hid hc4; have HE4 := Lib.hid (Blk.b (by exact HE2.out) b4 : Blk w4 (w.heap.size + 1) 25 #[.int .i64 0]); have HO4 := Lib.hid bb4; clear hc4 hbv b4 hgv hcv) | (go_at_call 45; refine (HI.out gv cv _ (by exact HBV.out)).mono ?_; rintro e w5 ⟨rfl, rfl⟩))
  all_goals (rename_i hh; clear hh)
  have hCW : Blk (w5.setCell ⟨w.heap.size, 0, none⟩ (.int .i64 ((-1)))) w.heap.size 24 #[.int .i64 ((-1)), .string ⟨#[]⟩] := HC4.out.set_ 0 (.int .i64 ((-1)))
  have hEW : Blk (w5.setCell ⟨w.heap.size, 0, none⟩ (.int .i64 ((-1)))) (w.heap.size + 1) 25 #[.int .i64 0] := HE4.out.far (p := ⟨w.heap.size, 0, none⟩) (by show w.heap.size + 1 ≠ w.heap.size; omega) (.int .i64 ((-1)))
  have hOW : Only (fun b => b = w.heap.size) w2 (w5.setCell ⟨w.heap.size, 0, none⟩ (.int .i64 ((-1)))) := HO4.out.setCell (p := ⟨w.heap.size, 0, none⟩) (Or.inl rfl) _
  have hXW : ∀ (j : Nat) (y : ByteArray), (x :: r)[j]? = some y → (w5.setCell ⟨w.heap.size, 0, none⟩ (.int .i64 ((-1)))).cell? ⟨g, o + j, none⟩ = some (.string y) := fun j y hj => (hOW.cell (a := ⟨g, o + j, none⟩) hlt hgc).trans (HX1.out j y hj)
  have hBW := only_below B2.out hOW (Nat.le_refl _)
  have hgW : g < (w5.setCell ⟨w.heap.size, 0, none⟩ (.int .i64 ((-1)))).heap.size := Nat.lt_of_lt_of_le hlt hOW.size
  clear kf0 kf1 kl kc0 kc1 HBV HC4 HE4 HO4 bb4 hb0 HKS hx0 HX1 hlt HC2 HE2 B2 hOW HI
  generalize w5.setCell ⟨w.heap.size, 0, none⟩ (.int .i64 ((-1))) = W at *
  have q0 := hCW.cell 0
  have q1 := hCW.cell 1
  have q2 := hCW.frozen 0
  have q3 := hCW.frozen 1
  have q4 := hEW.cell 0
  have q5 := hEW.frozen 0
  simp at q0 q1 q4
  have HCW := Lib.hid hCW
  have HEW := Lib.hid hEW
  have HXW := Lib.hid hXW
  have HBW := Lib.hid hBW
  clear hCW hEW hXW hBW
  go_wp2_with fail
  refine (must_no _ _).mono ?_
  rintro e w6 ⟨rfl, rfl⟩
  go_wp2_with fail
  exact parse_panic (by decide) (Nat.le_refl _) rfl rfl HCW.out HEW.out HBW.out
set_option maxRecDepth 100000 in
set_option maxHeartbeats 2000000 in
/-- A verb without a name, but more. -/
theorem parse_bare_more {s x : ByteArray} {r : List ByteArray} {n : Nat} (hs : s.size ≤ 400) (hl : cutV 32 s = x :: r) (hn : r.length + 1 = n) (v : Int) (hvx : idxV x = v) (hv0 : 4 ≤ v) (h1 : n ≠ 1) (w : World) (hv : VarsB w) :
    Calls Tryd.prog 15 #[.string s] w fun e w' => e = .returned (.tuple #[.agg #[.int .i64 0, .string ⟨#[]⟩], .int .i64 12]) ∧ Below w.heap.size w w' := by
  have hmf : ∀ (fn : Fn) (first cap : Array Value) (w : World), (Instr.makeFunc fn first cap).run Tryd.prog w = .ok (.func fn first cap) w := fun _ _ _ _ => rfl
  have hd : (s.size : Int) ≤ 400 := by omega
  have HS := Lib.hid (split_cons hl hn (by omega))
  have HI := Lib.hid (fun g c W => verb_index g c x W)
  rw [show Lib.idxOfS verbsL x = v from hvx] at HI
  have HV := Lib.hid hv
  clear hl hvx hv
  go_enter_defers Tryd.func15, Tryd.ntmps15
  go_wp2_with fail
  refine (must_yes _ _).mono ?_
  rintro e w1 ⟨rfl, rfl⟩
  go_wp2_with fail
  refine (HS.out _ (HV.out.below (((Below.refl _ _).alloc (Nat.le_refl _) _).alloc (by simp) _))).mono ?_
  rintro e w2 ⟨g, o, cc, rfl, hcap, hgn, hlt, hx0, hx1, b2⟩
  have hgn : w.heap.size + 2 ≤ g := by simpa using hgn
  have hw2 : w.heap.size + 2 ≤ w2.heap.size := by have := b2.size; simpa using this
  have hC2 : Blk w2 w.heap.size 24 #[.int .i64 0, .string ⟨#[]⟩] := Blk.b ((Blk.new _ _ _).alloc _) b2
  have hE2 : Blk w2 (w.heap.size + 1) 25 #[.int .i64 0] := Blk.b (heap_at_new _ (by simp)) b2
  have B2 := Lib.hid ((((Below.refl w.heap.size w).alloc (Nat.le_refl _) _).alloc (by simp) _).trans (b2.mono (by simp; omega)))
  clear b2
  have HC2 := Lib.hid hC2
  have HE2 := Lib.hid hE2
  have HX1 := Lib.hid hx1
  clear hC2 hE2 hx1 HS
  have hn1 : 1 ≤ n := by omega
  have hn1' : (1 : Int) ≤ (n : Int) := by omega
  have hn0 : (0 : Int) < (n : Int) := by omega
  go_wp2_with fail
  have hn00 : 0 < n := by omega
  have hgc : g ≠ w.heap.size := by omega
  have HKS := Lib.hid (fun (W : World) (hb : Only (fun b => b = w.heap.size) w2 W) => (⟨(hb.cell (a := ⟨g, o, none⟩) hlt hgc).trans hx0, hb⟩ : W.cell? ⟨g, o, none⟩ = some (.string x) ∧ Only (fun b => b = w.heap.size) w2 W))
  have hb0 : Only (fun b => b = w.heap.size) w2 w2 := Only.refl _ w2
  go_region_held3 (fun W => W.cell? ⟨g, o, none⟩ = some (.string x) ∧ Only (fun b => b = w.heap.size) w2 W) ((refine HKS.out _ ?_; (repeat (first | with_reducible assumption | with_reducible exact Only.refl _ _ | with_reducible refine Only.drewN ?_ _ | with_reducible refine Only.drew ?_ | with_reducible refine Only.alloc ?_ _ | refine Only.setCell ?_ (by exact Or.inl rfl) _)))) (first | (go_at_call 46; refine (verbs_any _).mono ?_; rintro e w4 ⟨gv, cv, rfl, hcv, hgv, hbv, b4⟩; have bb4 : Only (fun b => b = w.heap.size) w2 w4 := Only.trans (by (repeat (first | with_reducible assumption | with_reducible exact Only.refl _ _ | with_reducible refine Only.drewN ?_ _ | with_reducible refine Only.drew ?_ | with_reducible refine Only.alloc ?_ _ | refine Only.setCell ?_ (by exact Or.inl rfl) _))) (Only.of_B b4); have hc4 : Blk w4 w.heap.size 24 #[.int .i64 0, .string ⟨#[]⟩] := Blk.b (by exact HC2.out) b4; have kc0 := hc4.cell 0; have kc1 := hc4.cell 1; have kf0 := hc4.frozen 0; have kf1 := hc4.frozen 1; have kl := hc4.lt; simp at kc0 kc1; have HBV := Lib.hid hbv; have HC4 := Lib.hid hc4; have HE4 := Lib.hid (Blk.b (by exact HE2.out) b4 : Blk w4 (w.heap.size + 1) 25 #[.int .i64 0]); have HO4 := Lib.hid bb4; clear hc4 hbv b4 hgv hcv) | (go_at_call 45; refine (HI.out gv cv _ (by exact HBV.out)).mono ?_; rintro e w5 ⟨rfl, rfl⟩))
  all_goals (rename_i hh; clear hh)
  have hCW : Blk (w5.setCell ⟨w.heap.size, 0, none⟩ (.int .i64 (v))) w.heap.size 24 #[.int .i64 (v), .string ⟨#[]⟩] := HC4.out.set_ 0 (.int .i64 (v))
  have hEW : Blk (w5.setCell ⟨w.heap.size, 0, none⟩ (.int .i64 (v))) (w.heap.size + 1) 25 #[.int .i64 0] := HE4.out.far (p := ⟨w.heap.size, 0, none⟩) (by show w.heap.size + 1 ≠ w.heap.size; omega) (.int .i64 (v))
  have hOW : Only (fun b => b = w.heap.size) w2 (w5.setCell ⟨w.heap.size, 0, none⟩ (.int .i64 (v))) := HO4.out.setCell (p := ⟨w.heap.size, 0, none⟩) (Or.inl rfl) _
  have hXW : ∀ (j : Nat) (y : ByteArray), (x :: r)[j]? = some y → (w5.setCell ⟨w.heap.size, 0, none⟩ (.int .i64 (v))).cell? ⟨g, o + j, none⟩ = some (.string y) := fun j y hj => (hOW.cell (a := ⟨g, o + j, none⟩) hlt hgc).trans (HX1.out j y hj)
  have hBW := only_below B2.out hOW (Nat.le_refl _)
  have hgW : g < (w5.setCell ⟨w.heap.size, 0, none⟩ (.int .i64 (v))).heap.size := Nat.lt_of_lt_of_le hlt hOW.size
  clear kf0 kf1 kl kc0 kc1 HBV HC4 HE4 HO4 bb4 hb0 HKS hx0 HX1 hlt HC2 HE2 B2 hOW HI
  generalize w5.setCell ⟨w.heap.size, 0, none⟩ (.int .i64 (v)) = W at *
  have q0 := hCW.cell 0
  have q1 := hCW.cell 1
  have q2 := hCW.frozen 0
  have q3 := hCW.frozen 1
  have q4 := hEW.cell 0
  have q5 := hEW.frozen 0
  simp at q0 q1 q4
  have HCW := Lib.hid hCW
  have HEW := Lib.hid hEW
  have HXW := Lib.hid hXW
  have HBW := Lib.hid hBW
  clear hCW hEW hXW hBW
  have hv00 : 0 ≤ v := by omega
  have hn1b : ((n : Int) == 1) = false := by rw [beq_eq_false_iff_ne]; omega
  go_wp2_with fail
  refine (must_yes _ _).mono ?_
  rintro e w6 ⟨rfl, rfl⟩
  go_wp2_with fail
  refine (bare_same _ _).mono ?_
  rintro e w6 ⟨rfl, rfl⟩
  go_wp2_with fail
  refine (must_no _ _).mono ?_
  rintro e w6 ⟨rfl, rfl⟩
  go_wp2_with fail
  exact parse_panic (by decide) (Nat.le_refl _) rfl rfl HCW.out HEW.out HBW.out
set_option maxRecDepth 100000 in
set_option maxHeartbeats 2000000 in
theorem parse_bare {s x : ByteArray} {r : List ByteArray} {n : Nat} (hs : s.size ≤ 400) (hl : cutV 32 s = x :: r) (hn : r.length + 1 = n) (v : Int) (hvx : idxV x = v) (hv0 : 4 ≤ v) (h1 : n = 1) (w : World) (hv : VarsB w) :
    Calls Tryd.prog 15 #[.string s] w fun e w' => e = .returned (.tuple #[.agg #[.int .i64 v, .string ⟨#[]⟩], .int .i64 0]) ∧ Below w.heap.size w w' := by
  have hmf : ∀ (fn : Fn) (first cap : Array Value) (w : World), (Instr.makeFunc fn first cap).run Tryd.prog w = .ok (.func fn first cap) w := fun _ _ _ _ => rfl
  have hd : (s.size : Int) ≤ 400 := by omega
  have HS := Lib.hid (split_cons hl hn (by omega))
  have HI := Lib.hid (fun g c W => verb_index g c x W)
  rw [show Lib.idxOfS verbsL x = v from hvx] at HI
  have HV := Lib.hid hv
  clear hl hvx hv
  go_enter_defers Tryd.func15, Tryd.ntmps15
  go_wp2_with fail
  refine (must_yes _ _).mono ?_
  rintro e w1 ⟨rfl, rfl⟩
  go_wp2_with fail
  refine (HS.out _ (HV.out.below (((Below.refl _ _).alloc (Nat.le_refl _) _).alloc (by simp) _))).mono ?_
  rintro e w2 ⟨g, o, cc, rfl, hcap, hgn, hlt, hx0, hx1, b2⟩
  have hgn : w.heap.size + 2 ≤ g := by simpa using hgn
  have hw2 : w.heap.size + 2 ≤ w2.heap.size := by have := b2.size; simpa using this
  have hC2 : Blk w2 w.heap.size 24 #[.int .i64 0, .string ⟨#[]⟩] := Blk.b ((Blk.new _ _ _).alloc _) b2
  have hE2 : Blk w2 (w.heap.size + 1) 25 #[.int .i64 0] := Blk.b (heap_at_new _ (by simp)) b2
  have B2 := Lib.hid ((((Below.refl w.heap.size w).alloc (Nat.le_refl _) _).alloc (by simp) _).trans (b2.mono (by simp; omega)))
  clear b2
  have HC2 := Lib.hid hC2
  have HE2 := Lib.hid hE2
  have HX1 := Lib.hid hx1
  clear hC2 hE2 hx1 HS
  have hn1 : 1 ≤ n := by omega
  have hn1' : (1 : Int) ≤ (n : Int) := by omega
  have hn0 : (0 : Int) < (n : Int) := by omega
  go_wp2_with fail
  have hn00 : 0 < n := by omega
  have hgc : g ≠ w.heap.size := by omega
  have HKS := Lib.hid (fun (W : World) (hb : Only (fun b => b = w.heap.size) w2 W) => (⟨(hb.cell (a := ⟨g, o, none⟩) hlt hgc).trans hx0, hb⟩ : W.cell? ⟨g, o, none⟩ = some (.string x) ∧ Only (fun b => b = w.heap.size) w2 W))
  have hb0 : Only (fun b => b = w.heap.size) w2 w2 := Only.refl _ w2
  go_region_held3 (fun W => W.cell? ⟨g, o, none⟩ = some (.string x) ∧ Only (fun b => b = w.heap.size) w2 W) ((refine HKS.out _ ?_; (repeat (first | with_reducible assumption | with_reducible exact Only.refl _ _ | with_reducible refine Only.drewN ?_ _ | with_reducible refine Only.drew ?_ | with_reducible refine Only.alloc ?_ _ | refine Only.setCell ?_ (by exact Or.inl rfl) _)))) (first | (go_at_call 46; refine (verbs_any _).mono ?_; rintro e w4 ⟨gv, cv, rfl, hcv, hgv, hbv, b4⟩; have bb4 : Only (fun b => b = w.heap.size) w2 w4 := Only.trans (by (repeat (first | with_reducible assumption | with_reducible exact Only.refl _ _ | with_reducible refine Only.drewN ?_ _ | with_reducible refine Only.drew ?_ | with_reducible refine Only.alloc ?_ _ | refine Only.setCell ?_ (by exact Or.inl rfl) _))) (Only.of_B b4); have hc4 : Blk w4 w.heap.size 24 #[.int .i64 0, .string ⟨#[]⟩] := Blk.b (by exact HC2.out) b4; have kc0 := hc4.cell 0; have kc1 := hc4.cell 1; have kf0 := hc4.frozen 0; have kf1 := hc4.frozen 1; have kl := hc4.lt; simp at kc0 kc1; have HBV := Lib.hid hbv; have HC4 := Lib.hid hc4; have HE4 := Lib.hid (Blk.b (by exact HE2.out) b4 : Blk w4 (w.heap.size + 1) 25 #[.int .i64 0]); have HO4 := Lib.hid bb4; clear hc4 hbv b4 hgv hcv) | (go_at_call 45; refine (HI.out gv cv _ (by exact HBV.out)).mono ?_; rintro e w5 ⟨rfl, rfl⟩))
  all_goals (rename_i hh; clear hh)
  have hCW : Blk (w5.setCell ⟨w.heap.size, 0, none⟩ (.int .i64 (v))) w.heap.size 24 #[.int .i64 (v), .string ⟨#[]⟩] := HC4.out.set_ 0 (.int .i64 (v))
  have hEW : Blk (w5.setCell ⟨w.heap.size, 0, none⟩ (.int .i64 (v))) (w.heap.size + 1) 25 #[.int .i64 0] := HE4.out.far (p := ⟨w.heap.size, 0, none⟩) (by show w.heap.size + 1 ≠ w.heap.size; omega) (.int .i64 (v))
  have hOW : Only (fun b => b = w.heap.size) w2 (w5.setCell ⟨w.heap.size, 0, none⟩ (.int .i64 (v))) := HO4.out.setCell (p := ⟨w.heap.size, 0, none⟩) (Or.inl rfl) _
  have hXW : ∀ (j : Nat) (y : ByteArray), (x :: r)[j]? = some y → (w5.setCell ⟨w.heap.size, 0, none⟩ (.int .i64 (v))).cell? ⟨g, o + j, none⟩ = some (.string y) := fun j y hj => (hOW.cell (a := ⟨g, o + j, none⟩) hlt hgc).trans (HX1.out j y hj)
  have hBW := only_below B2.out hOW (Nat.le_refl _)
  have hgW : g < (w5.setCell ⟨w.heap.size, 0, none⟩ (.int .i64 (v))).heap.size := Nat.lt_of_lt_of_le hlt hOW.size
  clear kf0 kf1 kl kc0 kc1 HBV HC4 HE4 HO4 bb4 hb0 HKS hx0 HX1 hlt HC2 HE2 B2 hOW HI
  generalize w5.setCell ⟨w.heap.size, 0, none⟩ (.int .i64 (v)) = W at *
  have q0 := hCW.cell 0
  have q1 := hCW.cell 1
  have q2 := hCW.frozen 0
  have q3 := hCW.frozen 1
  have q4 := hEW.cell 0
  have q5 := hEW.frozen 0
  simp at q0 q1 q4
  have HCW := Lib.hid hCW
  have HEW := Lib.hid hEW
  have HXW := Lib.hid hXW
  have HBW := Lib.hid hBW
  clear hCW hEW hXW hBW
  have hv00 : 0 ≤ v := by omega
  have hn1b : ((n : Int) == 1) = true := by rw [beq_iff_eq]; omega
  go_wp2_with fail
  refine (must_yes _ _).mono ?_
  rintro e w6 ⟨rfl, rfl⟩
  go_wp2_with fail
  refine (bare_same _ _).mono ?_
  rintro e w6 ⟨rfl, rfl⟩
  go_wp2_with fail
  refine (must_yes _ _).mono ?_
  rintro e w6 ⟨rfl, rfl⟩
  go_wp2_with fail
  exact parse_ret rfl rfl (((HCW.out.set_ 0 _).set_ 1 _).far (by show w.heap.size ≠ w.heap.size + 1; omega) _) (((HEW.out.far (by show w.heap.size + 1 ≠ w.heap.size; omega) _).far (by show w.heap.size + 1 ≠ w.heap.size; omega) _).set_ 0 _) (((HBW.out.setCell (Nat.le_refl _) _).setCell (Nat.le_refl _) _).setCell (by show w.heap.size ≤ w.heap.size + 1; omega) _)
set_option maxRecDepth 100000 in
set_option maxHeartbeats 2000000 in
theorem parse_named_more {s x : ByteArray} {r : List ByteArray} {n : Nat} (hs : s.size ≤ 400) (hl : cutV 32 s = x :: r) (hn : r.length + 1 = n) (v : Int) (hvx : idxV x = v) (hv0 : 0 ≤ v) (hv4 : v < 4) (h1 : n ≠ 2) (w : World) (hv : VarsB w) :
    Calls Tryd.prog 15 #[.string s] w fun e w' => e = .returned (.tuple #[.agg #[.int .i64 0, .string ⟨#[]⟩], .int .i64 12]) ∧ Below w.heap.size w w' := by
  have hmf : ∀ (fn : Fn) (first cap : Array Value) (w : World), (Instr.makeFunc fn first cap).run Tryd.prog w = .ok (.func fn first cap) w := fun _ _ _ _ => rfl
  have hd : (s.size : Int) ≤ 400 := by omega
  have HS := Lib.hid (split_cons hl hn (by omega))
  have HI := Lib.hid (fun g c W => verb_index g c x W)
  rw [show Lib.idxOfS verbsL x = v from hvx] at HI
  have HV := Lib.hid hv
  clear hl hvx hv
  go_enter_defers Tryd.func15, Tryd.ntmps15
  go_wp2_with fail
  refine (must_yes _ _).mono ?_
  rintro e w1 ⟨rfl, rfl⟩
  go_wp2_with fail
  refine (HS.out _ (HV.out.below (((Below.refl _ _).alloc (Nat.le_refl _) _).alloc (by simp) _))).mono ?_
  rintro e w2 ⟨g, o, cc, rfl, hcap, hgn, hlt, hx0, hx1, b2⟩
  have hgn : w.heap.size + 2 ≤ g := by simpa using hgn
  have hw2 : w.heap.size + 2 ≤ w2.heap.size := by have := b2.size; simpa using this
  have hC2 : Blk w2 w.heap.size 24 #[.int .i64 0, .string ⟨#[]⟩] := Blk.b ((Blk.new _ _ _).alloc _) b2
  have hE2 : Blk w2 (w.heap.size + 1) 25 #[.int .i64 0] := Blk.b (heap_at_new _ (by simp)) b2
  have B2 := Lib.hid ((((Below.refl w.heap.size w).alloc (Nat.le_refl _) _).alloc (by simp) _).trans (b2.mono (by simp; omega)))
  clear b2
  have HC2 := Lib.hid hC2
  have HE2 := Lib.hid hE2
  have HX1 := Lib.hid hx1
  clear hC2 hE2 hx1 HS
  have hn1 : 1 ≤ n := by omega
  have hn1' : (1 : Int) ≤ (n : Int) := by omega
  have hn0 : (0 : Int) < (n : Int) := by omega
  go_wp2_with fail
  have hn00 : 0 < n := by omega
  have hgc : g ≠ w.heap.size := by omega
  have HKS := Lib.hid (fun (W : World) (hb : Only (fun b => b = w.heap.size) w2 W) => (⟨(hb.cell (a := ⟨g, o, none⟩) hlt hgc).trans hx0, hb⟩ : W.cell? ⟨g, o, none⟩ = some (.string x) ∧ Only (fun b => b = w.heap.size) w2 W))
  have hb0 : Only (fun b => b = w.heap.size) w2 w2 := Only.refl _ w2
  go_region_held3 (fun W => W.cell? ⟨g, o, none⟩ = some (.string x) ∧ Only (fun b => b = w.heap.size) w2 W) ((refine HKS.out _ ?_; (repeat (first | with_reducible assumption | with_reducible exact Only.refl _ _ | with_reducible refine Only.drewN ?_ _ | with_reducible refine Only.drew ?_ | with_reducible refine Only.alloc ?_ _ | refine Only.setCell ?_ (by exact Or.inl rfl) _)))) (first | (go_at_call 46; refine (verbs_any _).mono ?_; rintro e w4 ⟨gv, cv, rfl, hcv, hgv, hbv, b4⟩; have bb4 : Only (fun b => b = w.heap.size) w2 w4 := Only.trans (by (repeat (first | with_reducible assumption | with_reducible exact Only.refl _ _ | with_reducible refine Only.drewN ?_ _ | with_reducible refine Only.drew ?_ | with_reducible refine Only.alloc ?_ _ | refine Only.setCell ?_ (by exact Or.inl rfl) _))) (Only.of_B b4); have hc4 : Blk w4 w.heap.size 24 #[.int .i64 0, .string ⟨#[]⟩] := Blk.b (by exact HC2.out) b4; have kc0 := hc4.cell 0; have kc1 := hc4.cell 1; have kf0 := hc4.frozen 0; have kf1 := hc4.frozen 1; have kl := hc4.lt; simp at kc0 kc1; have HBV := Lib.hid hbv; have HC4 := Lib.hid hc4; have HE4 := Lib.hid (Blk.b (by exact HE2.out) b4 : Blk w4 (w.heap.size + 1) 25 #[.int .i64 0]); have HO4 := Lib.hid bb4; clear hc4 hbv b4 hgv hcv) | (go_at_call 45; refine (HI.out gv cv _ (by exact HBV.out)).mono ?_; rintro e w5 ⟨rfl, rfl⟩))
  all_goals (rename_i hh; clear hh)
  have hCW : Blk (w5.setCell ⟨w.heap.size, 0, none⟩ (.int .i64 (v))) w.heap.size 24 #[.int .i64 (v), .string ⟨#[]⟩] := HC4.out.set_ 0 (.int .i64 (v))
  have hEW : Blk (w5.setCell ⟨w.heap.size, 0, none⟩ (.int .i64 (v))) (w.heap.size + 1) 25 #[.int .i64 0] := HE4.out.far (p := ⟨w.heap.size, 0, none⟩) (by show w.heap.size + 1 ≠ w.heap.size; omega) (.int .i64 (v))
  have hOW : Only (fun b => b = w.heap.size) w2 (w5.setCell ⟨w.heap.size, 0, none⟩ (.int .i64 (v))) := HO4.out.setCell (p := ⟨w.heap.size, 0, none⟩) (Or.inl rfl) _
  have hXW : ∀ (j : Nat) (y : ByteArray), (x :: r)[j]? = some y → (w5.setCell ⟨w.heap.size, 0, none⟩ (.int .i64 (v))).cell? ⟨g, o + j, none⟩ = some (.string y) := fun j y hj => (hOW.cell (a := ⟨g, o + j, none⟩) hlt hgc).trans (HX1.out j y hj)
  have hBW := only_below B2.out hOW (Nat.le_refl _)
  have hgW : g < (w5.setCell ⟨w.heap.size, 0, none⟩ (.int .i64 (v))).heap.size := Nat.lt_of_lt_of_le hlt hOW.size
  clear kf0 kf1 kl kc0 kc1 HBV HC4 HE4 HO4 bb4 hb0 HKS hx0 HX1 hlt HC2 HE2 B2 hOW HI
  generalize w5.setCell ⟨w.heap.size, 0, none⟩ (.int .i64 (v)) = W at *
  have q0 := hCW.cell 0
  have q1 := hCW.cell 1
  have q2 := hCW.frozen 0
  have q3 := hCW.frozen 1
  have q4 := hEW.cell 0
  have q5 := hEW.frozen 0
  simp at q0 q1 q4
  have HCW := Lib.hid hCW
  have HEW := Lib.hid hEW
  have HXW := Lib.hid hXW
  have HBW := Lib.hid hBW
  clear hCW hEW hXW hBW
  have hn1b : ((n : Int) == 2) = false := by rw [beq_eq_false_iff_ne]; omega
  go_wp2_with fail
  refine (must_yes _ _).mono ?_
  rintro e w6 ⟨rfl, rfl⟩
  go_wp2_with fail
  refine (bare_same _ _).mono ?_
  rintro e w6 ⟨rfl, rfl⟩
  go_wp2_with fail
  refine (must_no _ _).mono ?_
  rintro e w6 ⟨rfl, rfl⟩
  go_wp2_with fail
  exact parse_panic (by decide) (Nat.le_refl _) rfl rfl HCW.out HEW.out HBW.out
set_option maxRecDepth 100000 in
set_option maxHeartbeats 2000000 in
theorem parse_named_odd {s x y : ByteArray} {r : List ByteArray} {n : Nat} (hs : s.size ≤ 400) (hl : cutV 32 s = x :: r) (hn : r.length + 1 = n) (v : Int) (hvx : idxV x = v) (hv0 : 0 ≤ v) (hv4 : v < 4) (h1 : n = 2) (hr : (x :: r)[1]? = some y) (hys : y.size ≤ 400) (hnm : nameB y = false) (w : World) (hv : VarsB w) :
    Calls Tryd.prog 15 #[.string s] w fun e w' => e = .returned (.tuple #[.agg #[.int .i64 0, .string ⟨#[]⟩], .int .i64 11]) ∧ Below w.heap.size w w' := by
  have hmf : ∀ (fn : Fn) (first cap : Array Value) (w : World), (Instr.makeFunc fn first cap).run Tryd.prog w = .ok (.func fn first cap) w := fun _ _ _ _ => rfl
  have hd : (s.size : Int) ≤ 400 := by omega
  have HS := Lib.hid (split_cons hl hn (by omega))
  have HI := Lib.hid (fun g c W => verb_index g c x W)
  rw [show Lib.idxOfS verbsL x = v from hvx] at HI
  have HV := Lib.hid hv
  clear hl hvx hv
  go_enter_defers Tryd.func15, Tryd.ntmps15
  go_wp2_with fail
  refine (must_yes _ _).mono ?_
  rintro e w1 ⟨rfl, rfl⟩
  go_wp2_with fail
  refine (HS.out _ (HV.out.below (((Below.refl _ _).alloc (Nat.le_refl _) _).alloc (by simp) _))).mono ?_
  rintro e w2 ⟨g, o, cc, rfl, hcap, hgn, hlt, hx0, hx1, b2⟩
  have hgn : w.heap.size + 2 ≤ g := by simpa using hgn
  have hw2 : w.heap.size + 2 ≤ w2.heap.size := by have := b2.size; simpa using this
  have hC2 : Blk w2 w.heap.size 24 #[.int .i64 0, .string ⟨#[]⟩] := Blk.b ((Blk.new _ _ _).alloc _) b2
  have hE2 : Blk w2 (w.heap.size + 1) 25 #[.int .i64 0] := Blk.b (heap_at_new _ (by simp)) b2
  have B2 := Lib.hid ((((Below.refl w.heap.size w).alloc (Nat.le_refl _) _).alloc (by simp) _).trans (b2.mono (by simp; omega)))
  clear b2
  have HC2 := Lib.hid hC2
  have HE2 := Lib.hid hE2
  have HX1 := Lib.hid hx1
  clear hC2 hE2 hx1 HS
  have hn1 : 1 ≤ n := by omega
  have hn1' : (1 : Int) ≤ (n : Int) := by omega
  have hn0 : (0 : Int) < (n : Int) := by omega
  go_wp2_with fail
  have hn00 : 0 < n := by omega
  have hgc : g ≠ w.heap.size := by omega
  have HKS := Lib.hid (fun (W : World) (hb : Only (fun b => b = w.heap.size) w2 W) => (⟨(hb.cell (a := ⟨g, o, none⟩) hlt hgc).trans hx0, hb⟩ : W.cell? ⟨g, o, none⟩ = some (.string x) ∧ Only (fun b => b = w.heap.size) w2 W))
  have hb0 : Only (fun b => b = w.heap.size) w2 w2 := Only.refl _ w2
  go_region_held3 (fun W => W.cell? ⟨g, o, none⟩ = some (.string x) ∧ Only (fun b => b = w.heap.size) w2 W) ((refine HKS.out _ ?_; (repeat (first | with_reducible assumption | with_reducible exact Only.refl _ _ | with_reducible refine Only.drewN ?_ _ | with_reducible refine Only.drew ?_ | with_reducible refine Only.alloc ?_ _ | refine Only.setCell ?_ (by exact Or.inl rfl) _)))) (first | (go_at_call 46; refine (verbs_any _).mono ?_; rintro e w4 ⟨gv, cv, rfl, hcv, hgv, hbv, b4⟩; have bb4 : Only (fun b => b = w.heap.size) w2 w4 := Only.trans (by (repeat (first | with_reducible assumption | with_reducible exact Only.refl _ _ | with_reducible refine Only.drewN ?_ _ | with_reducible refine Only.drew ?_ | with_reducible refine Only.alloc ?_ _ | refine Only.setCell ?_ (by exact Or.inl rfl) _))) (Only.of_B b4); have hc4 : Blk w4 w.heap.size 24 #[.int .i64 0, .string ⟨#[]⟩] := Blk.b (by exact HC2.out) b4; have kc0 := hc4.cell 0; have kc1 := hc4.cell 1; have kf0 := hc4.frozen 0; have kf1 := hc4.frozen 1; have kl := hc4.lt; simp at kc0 kc1; have HBV := Lib.hid hbv; have HC4 := Lib.hid hc4; have HE4 := Lib.hid (Blk.b (by exact HE2.out) b4 : Blk w4 (w.heap.size + 1) 25 #[.int .i64 0]); have HO4 := Lib.hid bb4; clear hc4 hbv b4 hgv hcv) | (go_at_call 45; refine (HI.out gv cv _ (by exact HBV.out)).mono ?_; rintro e w5 ⟨rfl, rfl⟩))
  all_goals (rename_i hh; clear hh)
  have hCW : Blk (w5.setCell ⟨w.heap.size, 0, none⟩ (.int .i64 (v))) w.heap.size 24 #[.int .i64 (v), .string ⟨#[]⟩] := HC4.out.set_ 0 (.int .i64 (v))
  have hEW : Blk (w5.setCell ⟨w.heap.size, 0, none⟩ (.int .i64 (v))) (w.heap.size + 1) 25 #[.int .i64 0] := HE4.out.far (p := ⟨w.heap.size, 0, none⟩) (by show w.heap.size + 1 ≠ w.heap.size; omega) (.int .i64 (v))
  have hOW : Only (fun b => b = w.heap.size) w2 (w5.setCell ⟨w.heap.size, 0, none⟩ (.int .i64 (v))) := HO4.out.setCell (p := ⟨w.heap.size, 0, none⟩) (Or.inl rfl) _
  have hXW : ∀ (j : Nat) (y : ByteArray), (x :: r)[j]? = some y → (w5.setCell ⟨w.heap.size, 0, none⟩ (.int .i64 (v))).cell? ⟨g, o + j, none⟩ = some (.string y) := fun j y hj => (hOW.cell (a := ⟨g, o + j, none⟩) hlt hgc).trans (HX1.out j y hj)
  have hBW := only_below B2.out hOW (Nat.le_refl _)
  have hgW : g < (w5.setCell ⟨w.heap.size, 0, none⟩ (.int .i64 (v))).heap.size := Nat.lt_of_lt_of_le hlt hOW.size
  clear kf0 kf1 kl kc0 kc1 HBV HC4 HE4 HO4 bb4 hb0 HKS hx0 HX1 hlt HC2 HE2 B2 hOW HI
  generalize w5.setCell ⟨w.heap.size, 0, none⟩ (.int .i64 (v)) = W at *
  have q0 := hCW.cell 0
  have q1 := hCW.cell 1
  have q2 := hCW.frozen 0
  have q3 := hCW.frozen 1
  have q4 := hEW.cell 0
  have q5 := hEW.frozen 0
  simp at q0 q1 q4
  have HCW := Lib.hid hCW
  have HEW := Lib.hid hEW
  have HXW := Lib.hid hXW
  have HBW := Lib.hid hBW
  clear hCW hEW hXW hBW
  have hn2 : ((n : Int) == 2) = true := by rw [beq_iff_eq]; omega
  have hn2' : (1 : Int) < (n : Int) := by omega
  have hn2'' : 1 < n := by omega
  have hy := HXW.out 1 y hr
  go_wp2_with fail
  refine (must_yes _ _).mono ?_
  rintro e w6 ⟨rfl, rfl⟩
  go_wp2_with fail
  refine (bare_same _ _).mono ?_
  rintro e w6 ⟨rfl, rfl⟩
  go_wp2_with fail
  refine (must_yes _ _).mono ?_
  rintro e w6 ⟨rfl, rfl⟩
  go_wp2_with fail
  refine (name_any y (by omega) _).mono ?_
  rintro e w7 ⟨rfl, b7⟩
  have hc7 := HCW.out.b b7
  have he7 := HEW.out.b b7
  have hb7 := HBW.out.trans (b7.mono HBW.out.size)
  have p0 := hc7.cell 0
  have p1 := hc7.cell 1
  have p2 := hc7.frozen 0
  have p3 := hc7.frozen 1
  have p4 := he7.cell 0
  have p5 := he7.frozen 0
  have hy7 : w7.cell? ⟨g, o + 1, none⟩ = some (.string y) := (b7.cell (p := ⟨g, o + 1, none⟩) hgW).trans hy
  simp at p0 p1 p4
  replace HCW := Lib.hid hc7
  replace HEW := Lib.hid he7
  replace HBW := Lib.hid hb7
  clear hc7 he7 hb7 b7
  rw [hnm]
  go_wp2_with fail
  refine (must_no _ _).mono ?_
  rintro e w6 ⟨rfl, rfl⟩
  go_wp2_with fail
  exact parse_panic (by decide) (Nat.le_refl _) rfl rfl HCW.out HEW.out HBW.out
set_option maxRecDepth 100000 in
set_option maxHeartbeats 2000000 in
theorem parse_named {s x y : ByteArray} {r : List ByteArray} {n : Nat} (hs : s.size ≤ 400) (hl : cutV 32 s = x :: r) (hn : r.length + 1 = n) (v : Int) (hvx : idxV x = v) (hv0 : 0 ≤ v) (hv4 : v < 4) (h1 : n = 2) (hr : (x :: r)[1]? = some y) (hys : y.size ≤ 400) (hnm : nameB y = true) (w : World) (hv : VarsB w) :
    Calls Tryd.prog 15 #[.string s] w fun e w' => e = .returned (.tuple #[.agg #[.int .i64 v, .string y], .int .i64 0]) ∧ Below w.heap.size w w' := by
  have hmf : ∀ (fn : Fn) (first cap : Array Value) (w : World), (Instr.makeFunc fn first cap).run Tryd.prog w = .ok (.func fn first cap) w := fun _ _ _ _ => rfl
  have hd : (s.size : Int) ≤ 400 := by omega
  have HS := Lib.hid (split_cons hl hn (by omega))
  have HI := Lib.hid (fun g c W => verb_index g c x W)
  rw [show Lib.idxOfS verbsL x = v from hvx] at HI
  have HV := Lib.hid hv
  clear hl hvx hv
  go_enter_defers Tryd.func15, Tryd.ntmps15
  go_wp2_with fail
  refine (must_yes _ _).mono ?_
  rintro e w1 ⟨rfl, rfl⟩
  go_wp2_with fail
  refine (HS.out _ (HV.out.below (((Below.refl _ _).alloc (Nat.le_refl _) _).alloc (by simp) _))).mono ?_
  rintro e w2 ⟨g, o, cc, rfl, hcap, hgn, hlt, hx0, hx1, b2⟩
  have hgn : w.heap.size + 2 ≤ g := by simpa using hgn
  have hw2 : w.heap.size + 2 ≤ w2.heap.size := by have := b2.size; simpa using this
  have hC2 : Blk w2 w.heap.size 24 #[.int .i64 0, .string ⟨#[]⟩] := Blk.b ((Blk.new _ _ _).alloc _) b2
  have hE2 : Blk w2 (w.heap.size + 1) 25 #[.int .i64 0] := Blk.b (heap_at_new _ (by simp)) b2
  have B2 := Lib.hid ((((Below.refl w.heap.size w).alloc (Nat.le_refl _) _).alloc (by simp) _).trans (b2.mono (by simp; omega)))
  clear b2
  have HC2 := Lib.hid hC2
  have HE2 := Lib.hid hE2
  have HX1 := Lib.hid hx1
  clear hC2 hE2 hx1 HS
  have hn1 : 1 ≤ n := by omega
  have hn1' : (1 : Int) ≤ (n : Int) := by omega
  have hn0 : (0 : Int) < (n : Int) := by omega
  go_wp2_with fail
  have hn00 : 0 < n := by omega
  have hgc : g ≠ w.heap.size := by omega
  have HKS := Lib.hid (fun (W : World) (hb : Only (fun b => b = w.heap.size) w2 W) => (⟨(hb.cell (a := ⟨g, o, none⟩) hlt hgc).trans hx0, hb⟩ : W.cell? ⟨g, o, none⟩ = some (.string x) ∧ Only (fun b => b = w.heap.size) w2 W))
  have hb0 : Only (fun b => b = w.heap.size) w2 w2 := Only.refl _ w2
  go_region_held3 (fun W => W.cell? ⟨g, o, none⟩ = some (.string x) ∧ Only (fun b => b = w.heap.size) w2 W) ((refine HKS.out _ ?_; (repeat (first | with_reducible assumption | with_reducible exact Only.refl _ _ | with_reducible refine Only.drewN ?_ _ | with_reducible refine Only.drew ?_ | with_reducible refine Only.alloc ?_ _ | refine Only.setCell ?_ (by exact Or.inl rfl) _)))) (first | (go_at_call 46; refine (verbs_any _).mono ?_; rintro e w4 ⟨gv, cv, rfl, hcv, hgv, hbv, b4⟩; have bb4 : Only (fun b => b = w.heap.size) w2 w4 := Only.trans (by (repeat (first | with_reducible assumption | with_reducible exact Only.refl _ _ | with_reducible refine Only.drewN ?_ _ | with_reducible refine Only.drew ?_ | with_reducible refine Only.alloc ?_ _ | refine Only.setCell ?_ (by exact Or.inl rfl) _))) (Only.of_B b4); have hc4 : Blk w4 w.heap.size 24 #[.int .i64 0, .string ⟨#[]⟩] := Blk.b (by exact HC2.out) b4; have kc0 := hc4.cell 0; have kc1 := hc4.cell 1; have kf0 := hc4.frozen 0; have kf1 := hc4.frozen 1; have kl := hc4.lt; simp at kc0 kc1; have HBV := Lib.hid hbv; have HC4 := Lib.hid hc4; have HE4 := Lib.hid (Blk.b (by exact HE2.out) b4 : Blk w4 (w.heap.size + 1) 25 #[.int .i64 0]); have HO4 := Lib.hid bb4; clear hc4 hbv b4 hgv hcv) | (go_at_call 45; refine (HI.out gv cv _ (by exact HBV.out)).mono ?_; rintro e w5 ⟨rfl, rfl⟩))
  all_goals (rename_i hh; clear hh)
  have hCW : Blk (w5.setCell ⟨w.heap.size, 0, none⟩ (.int .i64 (v))) w.heap.size 24 #[.int .i64 (v), .string ⟨#[]⟩] := HC4.out.set_ 0 (.int .i64 (v))
  have hEW : Blk (w5.setCell ⟨w.heap.size, 0, none⟩ (.int .i64 (v))) (w.heap.size + 1) 25 #[.int .i64 0] := HE4.out.far (p := ⟨w.heap.size, 0, none⟩) (by show w.heap.size + 1 ≠ w.heap.size; omega) (.int .i64 (v))
  have hOW : Only (fun b => b = w.heap.size) w2 (w5.setCell ⟨w.heap.size, 0, none⟩ (.int .i64 (v))) := HO4.out.setCell (p := ⟨w.heap.size, 0, none⟩) (Or.inl rfl) _
  have hXW : ∀ (j : Nat) (y : ByteArray), (x :: r)[j]? = some y → (w5.setCell ⟨w.heap.size, 0, none⟩ (.int .i64 (v))).cell? ⟨g, o + j, none⟩ = some (.string y) := fun j y hj => (hOW.cell (a := ⟨g, o + j, none⟩) hlt hgc).trans (HX1.out j y hj)
  have hBW := only_below B2.out hOW (Nat.le_refl _)
  have hgW : g < (w5.setCell ⟨w.heap.size, 0, none⟩ (.int .i64 (v))).heap.size := Nat.lt_of_lt_of_le hlt hOW.size
  clear kf0 kf1 kl kc0 kc1 HBV HC4 HE4 HO4 bb4 hb0 HKS hx0 HX1 hlt HC2 HE2 B2 hOW HI
  generalize w5.setCell ⟨w.heap.size, 0, none⟩ (.int .i64 (v)) = W at *
  have q0 := hCW.cell 0
  have q1 := hCW.cell 1
  have q2 := hCW.frozen 0
  have q3 := hCW.frozen 1
  have q4 := hEW.cell 0
  have q5 := hEW.frozen 0
  simp at q0 q1 q4
  have HCW := Lib.hid hCW
  have HEW := Lib.hid hEW
  have HXW := Lib.hid hXW
  have HBW := Lib.hid hBW
  clear hCW hEW hXW hBW
  have hn2 : ((n : Int) == 2) = true := by rw [beq_iff_eq]; omega
  have hn2' : (1 : Int) < (n : Int) := by omega
  have hn2'' : 1 < n := by omega
  have hy := HXW.out 1 y hr
  go_wp2_with fail
  refine (must_yes _ _).mono ?_
  rintro e w6 ⟨rfl, rfl⟩
  go_wp2_with fail
  refine (bare_same _ _).mono ?_
  rintro e w6 ⟨rfl, rfl⟩
  go_wp2_with fail
  refine (must_yes _ _).mono ?_
  rintro e w6 ⟨rfl, rfl⟩
  go_wp2_with fail
  refine (name_any y (by omega) _).mono ?_
  rintro e w7 ⟨rfl, b7⟩
  have hc7 := HCW.out.b b7
  have he7 := HEW.out.b b7
  have hb7 := HBW.out.trans (b7.mono HBW.out.size)
  have p0 := hc7.cell 0
  have p1 := hc7.cell 1
  have p2 := hc7.frozen 0
  have p3 := hc7.frozen 1
  have p4 := he7.cell 0
  have p5 := he7.frozen 0
  have hy7 : w7.cell? ⟨g, o + 1, none⟩ = some (.string y) := (b7.cell (p := ⟨g, o + 1, none⟩) hgW).trans hy
  simp at p0 p1 p4
  replace HCW := Lib.hid hc7
  replace HEW := Lib.hid he7
  replace HBW := Lib.hid hb7
  clear hc7 he7 hb7 b7
  rw [hnm]
  go_wp2_with fail
  refine (must_yes _ _).mono ?_
  rintro e w6 ⟨rfl, rfl⟩
  go_wp2_with fail
  exact parse_ret rfl rfl ((((HCW.out.set_ 1 _).set_ 0 _).set_ 1 _).far (by show w.heap.size ≠ w.heap.size + 1; omega) _) ((((HEW.out.far (by show w.heap.size + 1 ≠ w.heap.size; omega) _).far (by show w.heap.size + 1 ≠ w.heap.size; omega) _).far (by show w.heap.size + 1 ≠ w.heap.size; omega) _).set_ 0 _) ((((HBW.out.setCell (Nat.le_refl _) _).setCell (Nat.le_refl _) _).setCell (Nat.le_refl _) _).setCell (by show w.heap.size ≤ w.heap.size + 1; omega) _)
/-- What admin.Parse answers. -/
def ParsePost (r : Int × ByteArray × Int) (w : World) (e : Ending) (w' : World) : Prop := e = .returned (.tuple #[.agg #[.int .i64 r.1, .string r.2.1], .int .i64 r.2.2]) ∧ Below w.heap.size w w'
theorem parse_any (s : ByteArray) (w : World) (hv : VarsB w) : Calls Tryd.prog 15 #[.string s] w (ParsePost (parseV s) w) := by
  unfold ParsePost
  by_cases hs : 400 < s.size
  · have e : parseV s = (0, e0, 13) := by unfold parseV; rw [if_pos hs]
    rw [e]
    exact parse_long s hs w
  · obtain ⟨x, r, hl⟩ := cutV_ne 32 s
    have e : parseV s = parseL (x :: r) := by unfold parseV; rw [if_neg hs, hl]
    rw [e]
    have hs' : s.size ≤ 400 := by omega
    unfold parseL
    rw [List.getD_cons_zero]
    by_cases h0 : idxV x < 0
    · rw [if_pos h0]
      exact parse_none hs' hl rfl _ rfl (by omega) w hv
    · rw [if_neg h0]
      by_cases h4 : 4 ≤ idxV x
      · rw [if_pos h4]
        by_cases h1 : (x :: r).length = 1
        · rw [if_pos h1]
          exact parse_bare hs' hl rfl _ rfl h4 (by simpa using h1) w hv
        · rw [if_neg h1]
          exact parse_bare_more hs' hl rfl _ rfl h4 (by simpa using h1) w hv
      · rw [if_neg h4]
        by_cases h2 : (x :: r).length = 2
        · rw [if_pos h2]
          obtain ⟨y, hy⟩ : ∃ y, (x :: r)[1]? = some y := ⟨_, List.getElem?_eq_getElem (by omega)⟩
          have hd : (x :: r).getD 1 e0 = y := by rw [List.getD_eq_getElem?_getD, hy]; rfl
          have hys : y.size ≤ 400 := by
            have := cutV_mem (c := 32) (s := s) (x := y) (by rw [hl]; exact List.mem_of_getElem? hy)
            omega
          rw [hd]
          cases hn : nameB y with
          | false =>
            rw [if_neg Bool.false_ne_true]
            exact parse_named_odd hs' hl rfl _ rfl (by omega) (by omega) (by simpa using h2) hy hys hn w hv
          | true =>
            rw [if_pos rfl]
            exact parse_named hs' hl rfl _ rfl (by omega) (by omega) (by simpa using h2) hy hys hn w hv
        · rw [if_neg h2]
          exact parse_named_more hs' hl rfl _ rfl (by omega) (by omega) (by simpa using h2) w hv
end Go.Proofs.YtogomkkglcddmaaDoor.Ad
