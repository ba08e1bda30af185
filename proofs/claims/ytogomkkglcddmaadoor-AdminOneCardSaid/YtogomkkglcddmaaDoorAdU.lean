/- AdminOne returns true, for all commands: its walk. -/
import Derived.Test.YtogomkkglcddmaaDoorAdL
namespace Go.Proofs.YtogomkkglcddmaaDoor.Ad
open Go.RowKit Go.Proofs.YtogomkkglcddmaaDoor Go.Proofs.YtogomkkglcddmaaDoor.Nm Go.Proofs.YtogomkkglcddmaaDoor.Cf
theorem toList_beq (s t : ByteArray) : (s.toList == t.toList) = decide (s = t) := by
  by_cases h : s = t
  · rw [decide_eq_true h]; exact (Lib.bytes_beq_iff _ _).2 h
  · rw [decide_eq_false h]; exact (Lib.bytes_beq_false_iff _ _).2 h
set_option maxRecDepth 100000 in
set_option maxHeartbeats 2000000 in
theorem one_walk (w : World) (a b : Int) (n m s t : ByteArray) (e f : Int) (hv : VarsB w) (hp : printV a n = (s, e)) (hq : printV b m = (t, f))
    (hc : (e = 12 ∧ s = ⟨#[]⟩) ∨ (e = 11 ∧ s = ⟨#[]⟩) ∨ (e = 0 ∧ (f != 0) = true) ∨ (e = 0 ∧ f = 0 ∧ Hid ((s.toList == t.toList) = (a == b && (n.toList == m.toList && true))))) :
    Calls Tryd.prog 5 #[.agg #[.int .i64 a, .string n], .agg #[.int .i64 b, .string m]] w fun e w' => e = .returned (.bool true) ∧ Below w.heap.size w w' := by
  have HL := Lib.hid (fun W h => lives_any W h)
  have HV := Lib.hid hv
  have HP := Lib.hid (fun W => print_any a n W)
  have HQ := Lib.hid (fun W => print_any b m W)
  unfold PrintPost at HP HQ
  rw [hp] at HP
  rw [hq] at HQ
  dsimp only at HP HQ
  have HEQ := fun dd W => eqC dd W a b n m
  clear hp hq hv
  have HA := Lib.hid (((Below.refl w.heap.size w).alloc (Nat.le_refl _) (.cells #[.int .i64 a, .string n] 28)).alloc (by simp) (.cells #[.int .i64 b, .string m] 28))
  have HK1 := Lib.hid ((Blk.new w 28 #[.int .i64 a, .string n]).alloc (.cells #[.int .i64 b, .string m] 28))
  have HK2 := Lib.hid (Blk.new (w.alloc (.cells #[.int .i64 a, .string n] 28)) 28 #[.int .i64 b, .string m])
  rcases hc with ⟨rfl, rfl⟩ | ⟨rfl, rfl⟩ | ⟨rfl, hf⟩ | ⟨rfl, rfl, HONE⟩
  all_goals
    go_enter Tryd.func5, Tryd.ntmps5
    go_wp2_with fail
    refine (HL.out _ (HV.out.below HA.out)).mono ?_
    rintro e w1 ⟨rfl, b1⟩
    have k1 := Blk.b (by exact HK1.out) b1
    have k2 := Blk.b (by exact HK2.out) b1
    have c0 := k1.cell 0
    have c1 := k1.cell 1
    have d0 := k2.cell 0
    have d1 := k2.cell 1
    simp at c0 c1 d0 d1
    have B1 := Lib.hid (HA.out.trans (b1.mono HA.out.size))
    replace HK1 := Lib.hid k1
    replace HK2 := Lib.hid k2
    clear b1 k1 k2
    go_wp2_with fail
    refine (HP.out _).mono ?_
    rintro e w2 ⟨rfl, b2⟩
    have k1 := Blk.b (by exact HK1.out) b2
    have k2 := Blk.b (by exact HK2.out) b2
    have c20 := k1.cell 0
    have c21 := k1.cell 1
    have d20 := k2.cell 0
    have d21 := k2.cell 1
    simp at c20 c21 d20 d21
    have B2 := Lib.hid (B1.out.trans (b2.mono B1.out.size))
    replace HK1 := Lib.hid k1
    replace HK2 := Lib.hid k2
    clear b2 k1 k2
    go_wp2_with fail
    refine (HQ.out _).mono ?_
    rintro e w3 ⟨rfl, b3⟩
    have k1 := Blk.b (by exact HK1.out) b3
    have k2 := Blk.b (by exact HK2.out) b3
    have c30 := k1.cell 0
    have c31 := k1.cell 1
    have d30 := k2.cell 0
    have d31 := k2.cell 1
    simp at c30 c31 d30 d31
    have B3 := Lib.hid (B2.out.trans (b3.mono B2.out.size))
    clear b3 k1 k2
    go_wp2_with fail
    go_ret
    refine ⟨?_, B3.out⟩
    first | rfl | (rw [HONE.out]; simp) | (have := HONE.out; simp_all)
theorem one_eq {a b : Int} {n m s t : ByteArray} (hp : printV a n = (s, 0)) (hq : printV b m = (t, 0)) : (s.toList == t.toList) = (a == b && (n.toList == m.toList && true)) := by
  rw [toList_beq, toList_beq, Bool.and_true]
  have := print_one hp hq
  by_cases h : s = t
  · obtain ⟨h3, h4⟩ := this.1 h
    rw [decide_eq_true h, decide_eq_true h4, h3]
    simp
  · rw [decide_eq_false h]
    by_cases h3 : a = b
    · have h4 : n ≠ m := fun h4 => h (this.2 ⟨h3, h4⟩)
      rw [decide_eq_false h4, Bool.and_false]
    · rw [beq_eq_false_iff_ne.2 h3, Bool.false_and]
theorem walk_AdminOne (w : World) (cs0 : Array Value) (w0 : cs0.size = 2 ∧ ∀ (i : Nat) (k : FK), ([.int, .str] : List FK)[i]? = some k → ∃ u, cs0[i]? = some u ∧ leafOk k u)
    (cs1 : Array Value) (w1 : cs1.size = 2 ∧ ∀ (i : Nat) (k : FK), ([.int, .str] : List FK)[i]? = some k → ∃ u, cs1[i]? = some u ∧ leafOk k u) (hv : VarsB w) :
    Calls Tryd.prog 5 #[.agg cs0, .agg cs1] w fun e w' => e = .returned (.bool true) ∧ Below w.heap.size w w' := by
  obtain ⟨a, n, rfl, _, _⟩ := cmd_of w0
  obtain ⟨b, m, rfl, _, _⟩ := cmd_of w1
  refine one_walk w a b n m _ _ _ _ hv rfl rfl ?_
  rcases printV_err a n with h | ⟨h, h12 | h11⟩
  · by_cases hf : (printV b m).2 = 0
    · exact .inr (.inr (.inr ⟨h, hf, Lib.hid (one_eq (Prod.ext rfl h) (Prod.ext rfl hf))⟩))
    · exact .inr (.inr (.inl ⟨h, bne_iff_ne.2 hf⟩))
  · exact .inl ⟨h12, h⟩
  · exact .inr (.inl ⟨h11, h⟩)
end Go.Proofs.YtogomkkglcddmaaDoor.Ad
