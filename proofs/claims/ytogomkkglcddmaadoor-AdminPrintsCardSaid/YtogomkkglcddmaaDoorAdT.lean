/- AdminPrints returns true, for all commands and errors: its walk. -/
import Derived.Test.YtogomkkglcddmaaDoorAdL
import Derived.Test.YtogomkkglcddmaaDoorAdB
namespace Go.Proofs.YtogomkkglcddmaaDoor.Ad
open Go.RowKit Go.Proofs.YtogomkkglcddmaaDoor Go.Proofs.YtogomkkglcddmaaDoor.Nm Go.Proofs.YtogomkkglcddmaaDoor.Cf
set_option maxRecDepth 100000 in
set_option maxHeartbeats 2000000 in
theorem prints_walk (w : World) (a er : Int) (n0 n s : ByteArray) (f : Int) (v : Int) (q : ByteArray) (h : Int) (m : Int) (z : ByteArray) (hv : VarsB w) (he : (Lit.int .i64 er).wf = true)
    (hmin : ∀ W ats ty, (Builtin.min_ ats ty #[.int .i64 (n0.size : Int), .int .i64 30]).run Tryd.prog W = .ok (.int .i64 m) W) (hsl : ∀ W, (Instr.slice 9 (.string n0) none (some (.int .i64 m)) none).run Tryd.prog W = .ok (.string n) W)
    (hns : n.size ≤ 30) (hp : printV a n = (s, f)) (hq : parseV s = (v, q, h)) (hz : answerV er = z)
    (hc : (f != 0) = true ∨ ((f != 0) = false ∧ a = v ∧ n = q ∧ h = 0)) :
    Calls Tryd.prog 4 #[.agg #[.int .i64 a, .string n0], .int .i64 er] w fun e w' => e = .returned (.bool true) ∧ Below w.heap.size w w' := by
  have HL := Lib.hid (fun W h => lives_any W h)
  have HV := Lib.hid hv
  have HP := Lib.hid (fun W => print_any a n W)
  have HR := Lib.hid (fun W => refprint_any a n (by omega : n.size ≤ 1000) W)
  have HQ := Lib.hid (fun W h => parse_any s W h)
  have HA := Lib.hid (fun W h => answer_any er he W h)
  have HB := Lib.hid (fun W => refanswer_any er he W)
  unfold PrintPost at HP HR
  unfold ParsePost at HQ
  rw [hp] at HP HR
  rw [hq] at HQ
  rw [hz] at HA HB
  dsimp only at HP HR HQ
  have HEQ := fun dd W => eqCmd dd W v a q n
  have t1 : (s.toList == s.toList) = true := beq_self_eq_true _
  have t2 : (f == f) = true := beq_self_eq_true _
  have t3 : (z.toList == z.toList) = true := beq_self_eq_true _
  have HA0 := Lib.hid ((Below.refl w.heap.size w).alloc (Nat.le_refl _) (.cells #[.int .i64 a, .string n0] 28))
  have HK0 := Lib.hid (Blk.new w 28 #[.int .i64 a, .string n0])
  clear hp hq hz hv he hns
  rcases hc with hc | ⟨hc, rfl, rfl, rfl⟩
  all_goals
    go_enter Tryd.func4, Tryd.ntmps4
    go_wp2_with fail
    refine (HL.out _ (HV.out.below HA0.out)).mono ?_
    rintro e w1 ⟨rfl, b1⟩
    have k1 := Blk.b (by exact HK0.out) b1
    have c0 := k1.cell 0
    have c1 := k1.cell 1
    have f0 := k1.frozen 0
    have f1 := k1.frozen 1
    have l1 := k1.lt
    simp at c0 c1
    have k2 := k1.set_ 1 (.string n)
    have HB2 := Lib.hid ((HA0.out.trans (b1.mono HA0.out.size)).setCell (p := ⟨w.heap.size, 1, none⟩) (Nat.le_refl _) (.string n))
    clear b1 k1
    go_wp2_with fail
    refine (HP.out _).mono ?_
    rintro e w2 ⟨rfl, b2⟩
    have k3 := Blk.b k2 b2
    have B2 := Lib.hid (HB2.out.trans (b2.mono HB2.out.size))
    have d0 := k3.cell 0
    have d1 := k3.cell 1
    simp at d0 d1
    clear k2 b2
    go_wp2_with fail
    refine (HR.out _).mono ?_
    rintro e w3 ⟨rfl, b3⟩
    have k4 := Blk.b k3 b3
    have B3 := Lib.hid (B2.out.trans (b3.mono B2.out.size))
    clear k3 b3
    go_wp2_with fail
    refine (HA.out _ (HV.out.below B3.out)).mono ?_
    rintro e w4 ⟨rfl, b4⟩
    have k5 := Blk.b k4 b4
    have B4 := Lib.hid (B3.out.trans (b4.mono B3.out.size))
    clear k4 b4
    go_wp2_with fail
    refine (HB.out _).mono ?_
    rintro e w5 ⟨rfl, b5⟩
    have k6 := Blk.b k5 b5
    have B5 := Lib.hid (B4.out.trans (b5.mono B4.out.size))
    clear k5 b5
    go_wp2_with fail
    refine (HQ.out _ (HV.out.below B5.out)).mono ?_
    rintro e w6 ⟨rfl, b6⟩
    have k7 := Blk.b k6 b6
    have B6 := Lib.hid (B5.out.trans (b6.mono B5.out.size))
    have e0 := k7.cell 0
    have e1 := k7.cell 1
    have el := k7.lt
    simp at e0 e1
    have HB7 := Lib.hid (fun o => B6.out.alloc B6.out.size o)
    clear k6 b6
    go_wp2_with fail
    go_ret
    exact ⟨by first | rfl | simp, HB7.out _⟩
theorem walk_AdminPrints (w : World) (cs0 : Array Value) (w0 : cs0.size = 2 ∧ ∀ (i : Nat) (k : FK), ([.int, .str] : List FK)[i]? = some k → ∃ u, cs0[i]? = some u ∧ leafOk k u) (er : Int) (he : (Lit.int .i64 er).wf = true) (hv : VarsB w) :
    Calls Tryd.prog 4 #[.agg cs0, .int .i64 er] w fun e w' => e = .returned (.bool true) ∧ Below w.heap.size w w' := by
  obtain ⟨a, n0, rfl, _, _⟩ := cmd_of w0
  obtain ⟨m, n, hmin, hsl, hs⟩ := cut_facts2 30 n0
  obtain ⟨s, f, hp⟩ : ∃ s f, printV a n = (s, f) := ⟨_, _, rfl⟩
  obtain ⟨v, q, h, hq⟩ : ∃ v q h, parseV s = (v, q, h) := ⟨_, _, _, rfl⟩
  refine prints_walk w a er n0 n s f v q h m _ hv he hmin hsl hs hp hq rfl ?_
  by_cases hf : f = 0
  · subst hf
    have hb := print_back hp
    rw [hq] at hb
    injection hb with h1 hb
    injection hb with h2 h3
    exact .inr ⟨rfl, h1.symm, h2.symm, h3⟩
  · exact .inl (bne_iff_ne.2 hf)
end Go.Proofs.YtogomkkglcddmaaDoor.Ad
