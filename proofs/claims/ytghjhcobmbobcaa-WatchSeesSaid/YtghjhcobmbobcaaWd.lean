/- watch.New, watch.Audit. -/
import Derived.Test.YtghjhcobmbobcaaWr
import Derived.Test.YtghjhcobmbobcaaPWatchAuditx0
namespace Go.Proofs.Ytghjhcobmbobcaa.Wt
open Go.RowKit Go.Proofs.Ytghjhcobmbobcaa.Mp Go.Proofs.Ytghjhcobmbobcaa Go.Proofs.YtghjhcobmbobcaaW.PrintWords Go.Proofs.Ytghjhcobmbobcaa.PWatchAudit

theorem right_id {o : OutV} (h : rightV o = true) : 0 ≤ o.id ∧ o.id ≤ 999999999 := by
  obtain ⟨k, id, fk, data, text⟩ := o
  unfold rightV at h
  have hn : ∀ b : Bool, (numberV id && b) = true → 0 ≤ id ∧ id ≤ 999999999 := fun b h => by
    unfold numberV at h
    simp only [Bool.and_eq_true, decide_eq_true_eq] at h
    omega
  have hz : ∀ b : Bool, (decide (id = 0) && b) = true → 0 ≤ id ∧ id ≤ 999999999 := fun b h => by
    simp only [Bool.and_eq_true, decide_eq_true_eq] at h
    omega
  dsimp only at h ⊢
  split at h
  · exact hn _ h
  · split at h
    · exact hn _ h
    · split at h
      · exact hn _ h
      · split at h
        · exact hz _ h
        · cases h
theorem see_right (base : Bs) (b n : Nat) (s : St) (o : OutV) (w : World) (h : WAt base w b n s) (hn : n < 1000) (hs : o.text.size ≤ 1000) :
    Calls Try.prog 12 #[.pointer (some ⟨b, 0, none⟩), outArg o] w (WPost base b n w (seeV (rightV o) s o)) := by
  have hR := right_any o hs
  cases hr : rightV o with
  | false => rw [hr] at hR; exact see_not base b n s o w h hR
  | true =>
    have hi := right_id hr
    rw [hr] at hR
    exact see_any base b n s w o true h hn (by simp [Lit.wf, IntKind.min, IntKind.max, IntKind.signed, IntKind.bits]; omega) hR

/-- The world after New. -/
def newW (w : World) : World := ((w.alloc (.map #[] 0)).alloc (.map #[] 0)).alloc (.cells #[.int .i64 0, .map (some w.heap.size), .map (some (w.heap.size + 1))] 51)
theorem newW_at (w : World) : WAt (Bs.at w) (newW w) (w.heap.size + 2) 0 st0 ∧ Below w.heap.size w (newW w) := by
  have s1 : (w.alloc (.map #[] 0)).heap.size = w.heap.size + 1 := World.size_alloc _ _
  have s2 : ((w.alloc (.map #[] 0)).alloc (.map #[] 0)).heap.size = w.heap.size + 2 := by rw [World.size_alloc, s1]
  unfold newW
  refine ⟨⟨w.heap.size, w.heap.size + 1, ?_, ?_, ?_, by show w.heap.size ≤ _; omega, by show w.heap.size ≤ _; omega, by show w.heap.size ≤ _; omega, by omega, by omega, by omega, fun k hk => hk.elim⟩, ?_⟩
  · rw [← s2]; exact heap_alloc_new _ _
  · refine (MapOf.made eN w).move ?_
    rw [Below.heap_alloc _ _ _ (by rw [s2]; omega), Below.heap_alloc _ _ _ (by rw [s1]; omega)]
  · have := MapOf.made (P := Try.prog) (k := 3) pair (w.alloc (.map #[] 0))
    rw [s1] at this
    refine this.move ?_
    rw [Below.heap_alloc _ _ _ (by rw [s2]; omega)]
  · exact (((Below.refl _ w).alloc (Nat.le_refl _) _).alloc (by rw [s1]; omega) _).alloc (by rw [s2]; omega) _
theorem new_is (w : World) : Calls Try.prog 11 #[] w fun e w' => ∃ b, e = .returned (.pointer (some ⟨b, 0, none⟩)) ∧ WAt (Bs.at w) w' b 0 st0 ∧ Below w.heap.size w w' := by
  have HN := Lib.hid (newW_at w)
  have hmm := @run_makeMap Try.prog
  go_enter Try.func11, Try.ntmps11
  go_wp2_with fail
  go_ret
  exact ⟨_, rfl, HN.out⟩

/-- A list of outputs in memory. -/
def OutsAt (w : World) (A : Option Addr) (l : List OutV) : Prop := ∀ (k : Nat) (o : OutV), l[k]? = some o → ∃ ad, A = some ad ∧ w.cell? (ad.add (k * 5)) = some (.int .i64 o.k) ∧ w.cell? ⟨(ad.add (k * 5)).block, (ad.add (k * 5)).off + 1, none⟩ = some (.int .i64 o.id) ∧
  w.cell? ⟨(ad.add (k * 5)).block, (ad.add (k * 5)).off + 2, none⟩ = some (.int .i64 o.fk) ∧ w.cell? ⟨(ad.add (k * 5)).block, (ad.add (k * 5)).off + 3, none⟩ = some (.string o.data) ∧ w.cell? ⟨(ad.add (k * 5)).block, (ad.add (k * 5)).off + 4, none⟩ = some (.string o.text)
theorem OutsAt.below {w w' : World} {A : Option Addr} {l : List OutV} (h : OutsAt w A l) (hb : Below w.heap.size w w') : OutsAt w' A l := fun k o ho => by
  obtain ⟨ad, e, c0, c1, c2, c3, c4⟩ := h k o ho
  exact ⟨ad, e, (hb.cell (World.block_lt_of_cell? w _ c0)).trans c0, (hb.cell (World.block_lt_of_cell? w _ c1)).trans c1, (hb.cell (World.block_lt_of_cell? w _ c2)).trans c2, (hb.cell (World.block_lt_of_cell? w _ c3)).trans c3, (hb.cell (World.block_lt_of_cell? w _ c4)).trans c4⟩
def toV (x : S36) : OutV := ⟨x.f0, x.f1, x.f2.f0, x.f2.f1, x.f3⟩
theorem OutsAt.of_C {w : World} {A : Option Addr} {xs : List S36} (h : Kd.C k36 w A xs.length xs) : OutsAt w A (xs.map toV) := fun k o ho => by
  rw [List.getElem?_map] at ho
  obtain ⟨x, hx, rfl⟩ := Option.map_eq_some_iff.1 ho
  have hk := (List.getElem?_eq_some_iff.1 hx).1
  have := at_T36 h (k : Int) (by omega) (by omega)
  have hr : rd_T36 xs (k : Int) = x := by
    unfold rd_T36
    rw [Int.toNat_natCast, List.getD_eq_getElem?_getD, hx]; rfl
  rw [hr, Int.toNat_natCast] at this
  exact this
theorem OutsAt.take {w : World} {A : Option Addr} {l : List OutV} (h : OutsAt w A l) (k : Nat) : OutsAt w A (l.take k) := fun i o ho => h i o (by
  rw [List.getElem?_take] at ho
  split at ho
  · exact ho
  · cases ho)

/-- The loop's worlds: the first k outputs were seen, and none was refused. -/
def AU (w0 : World) (l : List OutV) (b : Nat) (w : World) (k : Nat) : Prop := ∃ s, WAt (Bs.at w0) w b k s ∧ Below w0.heap.size w0 w ∧ auditFrom rightV 0 st0 l = auditFrom rightV k s (l.drop k)
theorem audit_any (A : Option Addr) (c : Nat) (l : List OutV) (_ : l.length ≤ c) (h60 : l.length ≤ 100) (hs : ∀ o ∈ l, o.text.size ≤ 1000) (w : World) (hl : OutsAt w A l) :
    Calls Try.prog 10 #[.slice A l.length c] w fun e w' => e = .returned (.tuple #[.int .i64 (auditFrom rightV 0 st0 l).1, .int .i64 (auditFrom rightV 0 st0 l).2]) ∧ Below w.heap.size w w' := by
  have HL := Lib.hid hl
  have HS := Lib.hid hs
  clear hl hs
  go_enter Try.func10, Try.ntmps10
  go_wp2_with fail
  refine (new_is w).mono ?_
  rintro e w1 ⟨b, rfl, hw, hb⟩
  have h0 : AU w l b w1 0 := ⟨st0, hw, hb, rfl⟩
  clear hw hb
  go_wp2_with fail
  go_loopw [11] (fun i wr => ∃ k : Nat, k ≤ l.length ∧ i = .int .i64 k ∧ AU w l b wr k) (fun i _ => l.length - (intOf i).toNat)
  case atStart => exact ⟨0, Nat.zero_le _, rfl, h0⟩
  case round =>
    obtain ⟨k, hk, rfl, s, hw, hb, ha⟩ := hrel
    clear h0
    by_cases hlt : k < l.length
    · obtain ⟨o, ho⟩ : ∃ o, l[k]? = some o := ⟨_, List.getElem?_eq_getElem hlt⟩
      obtain ⟨ad, rfl, c0, c1, c2, c3, c4⟩ := (HL.out.below hb) k o ho
      have hsz : w.heap.size ≤ wr.heap.size := hw.size
      have hw2 : WAt (Bs.at w) (wr.alloc (outObj o)) b k s := hw.below ((Below.refl _ _).alloc (Nat.le_refl _) _)
      have hb2 : Below w.heap.size w (wr.alloc (outObj o)) := hb.alloc hsz _
      have hdrop : l.drop k = o :: l.drop (k + 1) := by rw [← List.getElem_cons_drop hlt, (List.getElem?_eq_some_iff.1 ho).2]
      have HC := Lib.hid (see_right (Bs.at w) b k s o _ hw2 (by omega) (HS.out o (List.mem_of_getElem? ho)))
      have HB2 := Lib.hid hb2
      have HD := Lib.hid hdrop
      have HA := Lib.hid ha
      have hk63 : (k : Int) < 9223372036854775807 := by omega
      clear hw2 hb2 hw hb hsz hdrop ha
      obtain ⟨z, hz⟩ : ∃ z, (seeV (rightV o) s o).2 = z := ⟨_, rfl⟩
      unfold outObj outArg at HC
      unfold outObj at HB2
      go_wp2_with fail
      refine HC.out.mono ?_
      rintro e w2 ⟨rfl, hw2, hb2⟩
      have HB3 : Hid (Below w.heap.size w w2) := Lib.hid (HB2.out.trans hb2)
      have HW2 := Lib.hid hw2
      clear hw2 hb2 HC HB2 c0 c1 c2 c3 c4
      dsimp only
      rw [hz]
      by_cases h0 : z = 0
      · have t1 : (z != 0) = false := by rw [h0]; rfl
        go_wp2_with fail
        go_round
        case rel => exact ⟨k + 1, by omega, by push_cast; rfl, _, HW2.out, HB3.out, by
          rw [HA.out, HD.out]
          conv => lhs; unfold auditFrom
          rw [if_pos (hz.trans h0)]⟩
        case measure => simp [intOf]; omega
      · have t1 : (z != 0) = true := bne_iff_ne.2 h0
        have hr : auditFrom rightV 0 st0 l = ((k : Int), z) := by
          rw [HA.out, HD.out]
          conv => lhs; unfold auditFrom
          rw [if_neg (by rw [hz]; exact h0), hz]
        go_wp2_with fail
        refine bodyPost_ret (v := .tuple #[.int .i64 k, .int .i64 z]) (by simp [results, Try.results10, go_sem]; try rfl) rfl ?_
        rw [hr]
        exact ⟨rfl, HB3.out⟩
    · have hke : k = l.length := by omega
      subst hke
      have hr : auditFrom rightV 0 st0 l = (-1, 0) := by rw [ha, List.drop_length]; rfl
      have HB3 := Lib.hid hb
      clear hw hb ha HS
      go_wp2_with fail
      refine bodyPost_ret (v := .tuple #[.int .i64 (-1), .int .i64 0]) (by simp [results, Try.results10, go_sem]; try rfl) rfl ?_
      rw [hr]
      exact ⟨rfl, HB3.out⟩
end Go.Proofs.Ytghjhcobmbobcaa.Wt
