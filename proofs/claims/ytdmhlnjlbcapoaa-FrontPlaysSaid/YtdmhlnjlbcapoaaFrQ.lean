/- Contract of hostlerref15's Next, of frames that are held. -/
import Derived.Test.YtdmhlnjlbcapoaaFrP
namespace Go.Proofs.Ytdmhlnjlbcapoaa
open Go.RowKit

theorem rnext_sl {w5 : World} {n : Nat} {e : TypeId} {sz m : Nat} {v : Value} {xs : List Value} (h : Sl w5 e sz v m xs) (hno : ∀ i : Nat, n ≤ i → i < n + 4 → v.ownBlock ≠ some i) (u0 u1 u2 u3 : Value) (o : Obj) :
    Sl (((((w5.setCell ⟨n + 1, 0, none⟩ u0).setCell ⟨n + 1, 1, none⟩ u1).setCell ⟨n + 1 + 1, 0, none⟩ u2).setCell ⟨n + 1 + 1, 1, none⟩ u3).alloc o).drew e sz v m xs :=
  (((((h.far (p := ⟨n + 1, 0, none⟩) (hno (n + 1) (by omega) (by omega)) u0).far (p := ⟨n + 1, 1, none⟩) (hno (n + 1) (by omega) (by omega)) u1).far (p := ⟨n + 1 + 1, 0, none⟩) (hno (n + 1 + 1) (by omega) (by omega)) u2).far (p := ⟨n + 1 + 1, 1, none⟩) (hno (n + 1 + 1) (by omega) (by omega)) u3).alloc o).drew
theorem rnext_b {w w5 : World} (h : B w w5) (u0 u1 u2 u3 : Value) (o : Obj) :
    B w (((((w5.setCell ⟨w.heap.size + 1, 0, none⟩ u0).setCell ⟨w.heap.size + 1, 1, none⟩ u1).setCell ⟨w.heap.size + 1 + 1, 0, none⟩ u2).setCell ⟨w.heap.size + 1 + 1, 1, none⟩ u3).alloc o).drew :=
  B_drew (B_alloc (B_setCell (B_setCell (B_setCell (B_setCell h (p := ⟨w.heap.size + 1, 0, none⟩) (Nat.le_add_right _ 1) u0) (p := ⟨w.heap.size + 1, 1, none⟩) (Nat.le_add_right _ 1) u1) (p := ⟨w.heap.size + 1 + 1, 0, none⟩) (Nat.le_add_right _ 2) u2) (p := ⟨w.heap.size + 1 + 1, 1, none⟩) (Nat.le_add_right _ 2) u3) o)
set_option maxHeartbeats 4000000 in
theorem refnext_yes (st : Int) (x : Int × ByteArray) (r : List (Int × ByteArray)) (v : Value) (w : World) (hv : Sl w 29 2 v (r.length + 1) (encF (x :: r))) (h2 : (st == 2) = false) (h4 : (st == 4) = false)
    {st' what : Int} {hs' : List (Int × ByteArray)} (he : takeOf st r x = (st', what, hs')) :
    Calls Try.prog 24 #[.agg #[.int .i64 st, v]] w fun e w' => ∃ v', e = .returned (.tuple #[.agg #[.int .i64 st', v'], .agg #[.int .i64 x.1, .string x.2], .int .i64 what, .bool true]) ∧ RefOut w v hs' v' w' := by
  obtain ⟨A, c, rfl, hc1, hc2⟩ := hv.slice
  obtain ⟨g, o, rfl, hg, hcell⟩ := hv.cells (by simp)
  have d0 := hcell 0 (.int .i64 x.1) rfl
  have d1 := hcell 1 (.string x.2) rfl
  simp only [Nat.add_zero] at d0
  clear hcell
  have hd := hv.drop (k := 1) (by omega)
  have he2 : (encF (x :: r)).drop (1 * 2) = encF r := rfl
  rw [he2] at hd
  simp only [Nat.add_sub_cancel] at hd
  have HE := Lib.hid he
  clear he he2
  have hl0 : (((r.length : Int) + 1) == 0) = false := by simp; omega
  have hg1 : g < w.heap.size + 1 := by omega
  have hg2 : g < w.heap.size + 1 + 1 := by omega
  have hg3 : g < w.heap.size + 1 + 1 + 1 := by omega
  by_cases hc : c = 1
  · subst hc
    simp only [if_true, Nat.sub_self] at hd
    obtain rfl : r = [] := List.eq_nil_of_length_eq_zero (by omega)
    have HD := Lib.hid hd
    clear hd
    go_enter Try.func24, Try.ntmps24
    go_wp2_with fail
    refine (reftake_any st _ _ x.1 x.2 _ (by repeat (first | exact HD.out | refine Sl.alloc ?_ _ | refine Sl.drew ?_)) HE.out).mono ?_
    rintro e w5 ⟨v5, rfl, hs5, hb5, hn5⟩
    obtain ⟨A5, c5, rfl, _⟩ := hs5.slice
    have p1 : Blk w5 (w.heap.size + 1) 42 #[.int .i64 0, .slice none 0 0] := Blk.b (by exact Blk.alloc (Blk.alloc (heap_at_new _ (by simp)) _) _) hb5
    have p2 : Blk w5 (w.heap.size + 1 + 1) 29 #[.int .i64 0, .string ByteArray.empty] := Blk.b (by exact Blk.alloc (heap_at_new _ (by simp)) _) hb5
    have p3 : Blk w5 (w.heap.size + 1 + 1 + 1) 29 #[.int .i64 x.1, .string x.2] := Blk.b (by exact heap_at_new _ (by simp)) hb5
    have j0 := p1.cell 0
    have j1 := p1.cell 1
    have j2 := p1.frozen 0
    have j3 := p1.frozen 1
    have l1 := p1.lt
    have k0 := p2.cell 0
    have k1 := p2.cell 1
    have k2 := p2.frozen 0
    have k3 := p2.frozen 1
    have l2 := p2.lt
    have m0 := p3.cell 0
    have m1 := p3.cell 1
    have l3 := p3.lt
    simp at j0 j1 k0 k1 m0 m1
    clear p1 p2 p3
    have HS5 := Lib.hid hs5
    have HB5 := Lib.hid hb5
    have HN5 := Lib.hid hn5
    clear hs5 hb5 hn5
    go_wp2_with fail
    go_region_with (fail)
    all_goals
      go_wp2_with fail
      have b5 : B w w5 := B_trans (B_alloc (B_alloc (B_alloc (B_alloc (B_refl _) _) _) _) _) HB5.out
      have hno : ∀ p : Nat, w.heap.size ≤ p → p < w.heap.size + 4 → (Value.slice A5 hs'.length c5).ownBlock ≠ some p := by
        intro p h1 h2 h
        rcases HN5.out with h3 | h3
        · rw [h3] at h
          simp [Value.ownBlock] at h
          omega
        · have := h3 _ h
          simp at this
          omega
      have HNO := Lib.hid hno
      clear hno
      refine bodyPost_ret (v := .tuple #[.agg #[.int .i64 st', .slice A5 hs'.length c5], .agg #[.int .i64 x.1, .string x.2], .int .i64 what, .bool true]) (by simp [results, Try.results24, go_sem, j0, j1, k0, k1, l1, l2]; try rfl) rfl ⟨_, rfl, ?_⟩
      refine ⟨rnext_sl HS5.out HNO.out _ _ _ _ _, rnext_b b5 _ _ _ _ _, ?_⟩
      rcases HN5.out with h3 | h3
      · exact .inl h3
      · refine .inr fun g hg => ?_
        have := h3 g hg
        simp at this
        omega
  · rw [if_neg hc, Option.map_some, addr_add, Nat.one_mul] at hd
    have HD := Lib.hid hd
    clear hd
    go_enter Try.func24, Try.ntmps24
    go_wp2_with fail
    refine (reftake_any st _ _ x.1 x.2 _ (by repeat (first | exact HD.out | refine Sl.alloc ?_ _ | refine Sl.drew ?_)) HE.out).mono ?_
    rintro e w5 ⟨v5, rfl, hs5, hb5, hn5⟩
    obtain ⟨A5, c5, rfl, _⟩ := hs5.slice
    have p1 : Blk w5 (w.heap.size + 1) 42 #[.int .i64 0, .slice none 0 0] := Blk.b (by exact Blk.alloc (Blk.alloc (heap_at_new _ (by simp)) _) _) hb5
    have p2 : Blk w5 (w.heap.size + 1 + 1) 29 #[.int .i64 0, .string ByteArray.empty] := Blk.b (by exact Blk.alloc (heap_at_new _ (by simp)) _) hb5
    have p3 : Blk w5 (w.heap.size + 1 + 1 + 1) 29 #[.int .i64 x.1, .string x.2] := Blk.b (by exact heap_at_new _ (by simp)) hb5
    have j0 := p1.cell 0
    have j1 := p1.cell 1
    have j2 := p1.frozen 0
    have j3 := p1.frozen 1
    have l1 := p1.lt
    have k0 := p2.cell 0
    have k1 := p2.cell 1
    have k2 := p2.frozen 0
    have k3 := p2.frozen 1
    have l2 := p2.lt
    have m0 := p3.cell 0
    have m1 := p3.cell 1
    have l3 := p3.lt
    simp at j0 j1 k0 k1 m0 m1
    clear p1 p2 p3
    have HS5 := Lib.hid hs5
    have HB5 := Lib.hid hb5
    have HN5 := Lib.hid hn5
    clear hs5 hb5 hn5
    go_wp2_with fail
    go_region_with (fail)
    all_goals
      go_wp2_with fail
      have b5 : B w w5 := B_trans (B_alloc (B_alloc (B_alloc (B_alloc (B_refl _) _) _) _) _) HB5.out
      have hno : ∀ p : Nat, w.heap.size ≤ p → p < w.heap.size + 4 → (Value.slice A5 hs'.length c5).ownBlock ≠ some p := by
        intro p h1 h2 h
        rcases HN5.out with h3 | h3
        · rw [h3] at h
          simp [Value.ownBlock] at h
          omega
        · have := h3 _ h
          simp at this
          omega
      have HNO := Lib.hid hno
      clear hno
      refine bodyPost_ret (v := .tuple #[.agg #[.int .i64 st', .slice A5 hs'.length c5], .agg #[.int .i64 x.1, .string x.2], .int .i64 what, .bool true]) (by simp [results, Try.results24, go_sem, j0, j1, k0, k1, l1, l2]; try rfl) rfl ⟨_, rfl, ?_⟩
      refine ⟨rnext_sl HS5.out HNO.out _ _ _ _ _, rnext_b b5 _ _ _ _ _, ?_⟩
      rcases HN5.out with h3 | h3
      · exact .inl h3
      · refine .inr fun g hg => ?_
        have := h3 g hg
        simp at this
        omega
theorem refnext_no_out (st : Int) (hs : List (Int × ByteArray)) (v : Value) (w : World) (hv : Sl w 29 2 v hs.length (encF hs)) (h : st = 2 ∨ st = 4 ∨ hs = []) :
    Calls Try.prog 24 #[.agg #[.int .i64 st, v]] w fun e w' => ∃ v', e = .returned (.tuple #[.agg #[.int .i64 st, v'], .agg #[.int .i64 0, .string ByteArray.empty], .int .i64 0, .bool false]) ∧ RefOut w v hs v' w' :=
  (refnext_no st hs v w hv h).mono fun _ _ h => ⟨v, h.1, hv.b h.2, h.2, .inl rfl⟩
end Go.Proofs.Ytdmhlnjlbcapoaa
