/- The reference's Sorted: an insertion sort. -/
import Derived.Test.YtghjhcobmbobcaaSxA
namespace Go.Proofs.Ytghjhcobmbobcaa.Wt
open Go.RowKit Go.Proofs.Ytghjhcobmbobcaa
theorem ints_take {w : World} {A : Option Addr} {l : List Int} (h : IntsAt w A l) (k : Nat) : IntsAt w A (l.take k) := fun j x hj => by
  rw [List.getElem?_take] at hj
  split at hj
  · exact h j x hj
  · cases hj
theorem ints_tail {w : World} {g off c k : Nat} {l : List Int} (hc : l.length ≤ c) (h : IntsAt w (some ⟨g, off, none⟩) l) : IntsAt w (if c = k then some ⟨g, off, none⟩ else some ⟨g, off + k, none⟩) (l.drop k) := fun j x hj => by
  rw [List.getElem?_drop] at hj
  obtain ⟨g', off', e', hcs⟩ := h _ x hj
  injection e' with e'
  injection e' with e1 e2
  subst e1 e2
  by_cases e : c = k
  · have := (List.getElem?_eq_some_iff.1 hj).1
    omega
  · refine ⟨g, off + k, if_neg e, by rw [Nat.add_assoc]; exact hcs⟩
theorem ints_keep {W w3 w4 : World} {v3 : Value} {A : Option Addr} {out : List Int} {cell : Obj} (hb3 : B W w3) (hl : ∀ g, v3.ownBlock = some g → W.heap.size ≤ g) (hz : IntsAt W A out) (ho4 : Only (fun g => v3.ownBlock = some g) (w3.alloc cell) w4) : IntsAt w4 A out := hz.below (B_only (B_alloc hb3 _) ho4 hl)
/-- sorted so far, of the first j -/
structure Ins (l out : List Int) (j : Nat) : Prop where
  perm : out.Perm (l.take j)
  le : out.Pairwise (· ≤ ·)
theorem Ins.put {l out : List Int} {j k : Nat} {x : Int} (h : Ins l out j) (hx : l[j]? = some x) (h1 : ∀ m y, k ≤ m → out[m]? = some y → x < y) (h2 : ∀ m y, m < k → out[m]? = some y → y ≤ x) : Ins l (out.take k ++ [x] ++ out.drop k) (j + 1) := by
  obtain ⟨hlt, he⟩ := List.getElem?_eq_some_iff.1 hx
  constructor
  · rw [List.take_succ_eq_append_getElem hlt, he]
    have p1 : (out.take k ++ [x] ++ out.drop k).Perm (out ++ [x]) := by
      have : (out.take k ++ [x] ++ out.drop k).Perm (out.take k ++ (out.drop k ++ [x])) := by
        rw [List.append_assoc]
        exact List.Perm.append_left _ List.perm_append_comm
      refine this.trans ?_
      rw [← List.append_assoc, List.take_append_drop]
    exact p1.trans (h.perm.append_right _)
  · rw [List.pairwise_append, List.pairwise_append]
    have ht : ∀ a ∈ out.take k, a ≤ x := fun a ha => by
      obtain ⟨m, hm, rfl⟩ := List.mem_take_iff_getElem.1 ha
      exact h2 m _ (by omega) (List.getElem?_eq_getElem (by omega))
    have hd : ∀ b ∈ out.drop k, x < b := fun b hb => by
      obtain ⟨m, hm⟩ := List.getElem?_of_mem hb
      rw [List.getElem?_drop] at hm
      exact h1 _ b (by omega) hm
    refine ⟨⟨h.le.sublist (List.take_sublist _ _), by simp, fun a ha b hb => ?_⟩, h.le.sublist (List.drop_sublist _ _), fun a ha b hb => ?_⟩
    · rw [List.mem_singleton] at hb; subst hb; exact ht a ha
    · rcases List.mem_append.1 ha with ha | ha
      · have := ht a ha; have := hd b hb; omega
      · rw [List.mem_singleton] at ha; subst ha; have := hd b hb; omega
theorem Ins.done {l out : List Int} (h : Ins l out l.length) (hn : l.Nodup) : out = sortI l := by
  have hp : out.Perm l := by have := h.perm; rwa [List.take_length] at this
  refine strict_one _ _ ?_ (sortI_strict hn) fun i => by rw [sortI_mem]; exact hp.mem_iff
  have hnd : out.Nodup := hp.nodup_iff.2 hn
  exact (h.le.and hnd).imp fun {a b} hab => by have h1 := hab.1; have h2 := hab.2; omega
set_option maxRecDepth 100000 in
set_option maxHeartbeats 8000000 in
theorem sorted_any (w : World) (A : Option Addr) (c : Nat) (l : List Int) (hl : l.length ≤ 10000) (hn : l.Nodup) (h : IntsAt w A l) :
    Calls Try.prog 34 #[.slice A l.length c] w (ToL w (sortI l)) := by
  have H := Lib.hid h
  have HN := Lib.hid (fun out (hi : Ins l out l.length) => hi.done hn)
  have HB0 := Lib.hid (B_refl w)
  clear h hn
  go_enter Try.func34, Try.ntmps34
  go_wp2_with fail
  go_loopw [3, 4, 5, 6] (fun s3 s4 _ _ wr => ∃ (j : Nat) (A2 : Option Addr) (c2 : Nat) (out : List Int), j ≤ l.length ∧ s4 = .int .i64 j ∧ s3 = .slice A2 out.length c2 ∧ out.length = j ∧ Hid (Ins l out j) ∧ Sl wr 3 1 (.slice A2 out.length c2) out.length (encInts out) ∧ (∀ g, Value.ownBlock (.slice A2 out.length c2) = some g → w.heap.size ≤ g) ∧ B w wr) (fun _ s _ _ _ => l.length - (intOf s).toNat)
  case atStart => exact ⟨0, none, 0, [], Nat.zero_le _, rfl, rfl, rfl, Lib.hid ⟨List.Perm.refl _, List.Pairwise.nil⟩, Sl.nil _ _ _, fun g hg => (by cases hg), by repeat (first | with_reducible exact HB0.out | refine B_drew ?_ | refine B_drewN ?_ _)⟩
  case round =>
    obtain ⟨j, A2, c2, out, hj, rfl, rfl, hol, hins, hsl, how, hr⟩ := hrel
    have BR := Lib.hid hr
    have HSL := Lib.hid hsl
    have HOW := Lib.hid how
    clear hr hsl how
    by_cases hjm : j < l.length
    · obtain ⟨x, hx⟩ : ∃ x, l[j]? = some x := ⟨_, List.getElem?_eq_getElem hjm⟩
      have HX := Lib.hid hx
      clear hx
      have hoc := sl_capI HSL.out
      have ho1 : out.length ≤ 10000 := by omega
      have hol2 : out.length ≤ j := by omega
      have HOL := Lib.hid hol
      clear hol
      go_wp2_with fail
      go_loopw [5] (fun s5 wz => ∃ k : Nat, k ≤ out.length ∧ s5 = .int .i64 k ∧ Hid (∀ m y, k ≤ m → out[m]? = some y → x < y) ∧ Sl wz 3 1 (.slice A2 out.length c2) out.length (encInts out) ∧ B w wz) (fun s5 _ => (intOf s5).toNat)
      case atStart => exact ⟨out.length, Nat.le_refl _, rfl, Lib.hid fun m y hm hy => by have := (List.getElem?_eq_some_iff.1 hy).1; omega, by repeat (first | with_reducible exact HSL.out | refine Sl.drew ?_), by repeat (first | with_reducible exact BR.out | refine B_drew ?_)⟩
      case round =>
        obtain ⟨k, hk, rfl, hgt, hsz, hbz⟩ := hrel
        have HSZ := Lib.hid hsz
        have BZ := Lib.hid hbz
        clear hsz hbz
        obtain ⟨g, off, rfl, hcx⟩ := (H.out.below BZ.out) j x HX.out
        have hloop : (k = 0 ∨ ∃ y, out[k - 1]? = some y ∧ y ≤ x) ∨ (0 < k ∧ ∃ y, out[k - 1]? = some y ∧ x < y) := by
          rcases Nat.eq_zero_or_pos k with h0 | h0
          · exact .inl (.inl h0)
          · obtain ⟨y, hy⟩ : ∃ y, out[k - 1]? = some y := ⟨_, List.getElem?_eq_getElem (by omega)⟩
            by_cases hyx : y ≤ x
            · exact .inl (.inr ⟨y, hy, hyx⟩)
            · exact .inr ⟨h0, y, hy, by omega⟩
        rcases hloop with hstop | ⟨h0, y, hy, hxy⟩
        · have HLE := Lib.hid (show ∀ m z, m < k → out[m]? = some z → z ≤ x from fun m z hm hz => by
            rcases hstop with h0 | ⟨y, hy, hyx⟩
            · omega
            · obtain ⟨h1, h2⟩ := List.getElem?_eq_some_iff.1 hy
              obtain ⟨h3, h4⟩ := List.getElem?_eq_some_iff.1 hz
              rcases Nat.lt_or_ge m (k - 1) with hmk | hmk
              · have := List.pairwise_iff_getElem.1 hins.out.le m (k - 1) h3 h1 hmk
                omega
              · obtain rfl : m = k - 1 := by omega
                rw [hy] at hz
                injection hz with hz
                omega)
          have HPUT := Lib.hid (hins.out.put HX.out hgt.out HLE.out)
          have hkl : (out.take k).length = k := by rw [List.length_take]; omega
          have hdl : (out.drop k).length = out.length - k := by rw [List.length_drop]
          have HKL := Lib.hid hkl
          have HDL := Lib.hid hdl
          clear hkl hdl
          have hstop2 : (k = 0) ∨ (0 < k ∧ ∃ (y : Int) (off2 g2 : Nat), A2 = some ⟨g2, off2, none⟩ ∧ wr.cell? ⟨g2, off2 + (k - 1), none⟩ = some (.int .i64 y) ∧ y ≤ x) := by
            rcases hstop with h0 | ⟨y, hy, hyx⟩
            · exact .inl h0
            · rcases Nat.eq_zero_or_pos k with h0 | h0
              · exact .inl h0
              · obtain ⟨g2, off2, e2, hc2⟩ := ints_of_Sl HSZ.out rfl (k - 1) y hy
                exact .inr ⟨h0, y, off2, g2, e2, hc2, hyx⟩
          clear hstop
          have HSO := Lib.hid (fun (a : Prop) => (trivial : True))
          clear HSO
          have hkk : k ≤ 10000 := by omega
          rcases hstop2 with rfl | ⟨h0, y, off2, g2, rfl, hcy, hyx⟩
          · go_wp2_with fail
            go_quiet (fail)
            all_goals
              go_wp2_with (at_builtin; refine wpList_append_ints (by rfl) (.tmp 31) (.tmp 34) (by rfl) (.slice none 0 0) 0 [] (by rfl) ?hs A2 c2 (out.take (0)) (by first | (rw [HKL.out]; done) | (rw [HKL.out]; rfl)) ?hz ?hb ?_)
              case hs => exact Sl.nil _ _ _
              case hz => exact ints_take (ints_of_Sl (by repeat (first | with_reducible exact HSZ.out | refine Sl.drewN ?_ _ | refine Sl.drew ?_)) rfl) _
              case hb => rw [HKL.out]; omega
              intro A3 c3 w3 hs3 ho3 hl3
              have hb3 := B_only (B_refl _) ho3 (by intro g h; cases h)
              have HS3 := Lib.hid (show Sl w3 3 1 (.slice A3 (0) c3) (0) (encInts (out.take (0))) by first | exact hs3 | simpa [HKL.out] using hs3)
              have HZ3 : Hid (IntsAt w3 (A2) out) := Lib.hid (IntsAt.below (by exact ints_of_Sl (by repeat (first | with_reducible exact HSZ.out | refine Sl.drewN ?_ _ | refine Sl.drew ?_)) rfl) hb3)
              have B3 := Lib.hid (show B w w3 from B_only (by repeat (first | with_reducible exact BZ.out | refine B_drewN ?_ _ | refine B_drew ?_)) ho3 (by intro g h; cases h))
              have HO3 := Lib.hid (lies_newI hl3 (w0 := w) (by intro k hk; cases hk) (by have := BZ.out.size; simpa using this))
              have hcx3 : w3.cell? ⟨g, off + j, none⟩ = some (.int .i64 x) := by
                obtain ⟨_, _, e, h⟩ := (H.out.below B3.out) j x HX.out
                injection e with e
                injection e with e1 e2
                subst e1 e2
                exact h
              have HB3 := Lib.hid hb3
              have HL3 := Lib.hid (lies_newI hl3 (w0 := _) (by intro k hk; cases hk) (Nat.le_refl _))
              have HZW := Lib.hid (ints_of_Sl (by repeat (first | with_reducible exact HSZ.out | refine Sl.drewN ?_ _ | refine Sl.drew ?_)) rfl : IntsAt (wr.drewN nq) (A2) out)
              clear hs3 ho3 hl3 hb3
              go_wp2_with (at_builtin; refine wpList_append_ints (by rfl) (.tmp 36) (.tmp 41) (by rfl) (.slice A3 (0) c3) (0) (out.take (0)) (by rfl) ?hs (some ⟨w3.heap.size, 0, none⟩) 1 [x] (by rfl) ?hz ?hb ?_)
              case hs => repeat (first | with_reducible exact HS3.out | refine Sl.alloc ?_ _)
              case hz => exact one_int (by simp)
              case hb => simp only [List.length_singleton]; omega
              intro A4 c4 w4 hs4 ho4 hl4
              have HS4 := Lib.hid (show Sl w4 3 1 (.slice A4 (0 + 1) c4) (0 + 1) (encInts (out.take (0) ++ [x])) from hs4)
              have B4 := Lib.hid (show B w w4 from B_only (B_alloc B3.out _) ho4 HO3.out)
              have HO4 := Lib.hid (lies_newI hl4 HO3.out (B_alloc B3.out _).size)
              have HK4 := Lib.hid (ints_keep HB3.out HL3.out HZW.out ho4)
              clear hs4 ho4 hl4
              go_wp2_with (at_builtin; refine wpList_append_ints (by rfl) (.tmp 43) (.tmp 46) (by rfl) (.slice A4 (0 + 1) c4) (0 + 1) (out.take (0) ++ [x]) (by rfl) ?hs A2 c2 out rfl HK4.out ?hb ?_)
              case hs => exact HS4.out
              case hb => first | (rw [HDL.out]; omega) | omega
              all_goals
                intro A5 c5 w5 hs5 ho5 hl5
                have hL : (0 + 1 + (out).length) = (out.take (0) ++ [x] ++ out.drop (0)).length := by first | (rw [List.length_append, List.length_append, HKL.out]; done) | (rw [List.length_append, List.length_append, HKL.out]; rfl)
                have hL2 : (out.take (0) ++ [x] ++ out.drop (0)).length = j + 1 := by rw [List.length_append, List.length_append, HKL.out, HDL.out, ← HOL.out]; simp only [List.length_singleton]; omega
                have HS5 := Lib.hid (show Sl w5 3 1 (.slice A5 (0 + 1 + (out).length) c5) (0 + 1 + (out).length) (encInts (out.take (0) ++ [x] ++ out.drop (0))) by first | exact hs5 | simpa using hs5 | (rw [HDL.out]; simpa using hs5))
                have HO5 := Lib.hid (lies_newI hl5 HO4.out B4.out.size)
                have B5 := Lib.hid (show B w w5 from B_only B4.out ho5 HO4.out)
                rw [hL] at HS5
                clear hs5 ho5 hl5
                go_wp2_with fail
                go_roundw
                case rel => exact ⟨j + 1, A5, c5, out.take (0) ++ [x] ++ out.drop (0), by omega, by push_cast; rfl, by first | (rw [← hL]; done) | (rw [← hL]; rfl) | (rw [← hL, HDL.out]; done) | (rw [← hL, HDL.out]; rfl), hL2, HPUT, HS5.out, by rw [← hL]; first | exact HO5.out | (rw [HDL.out]; exact HO5.out), B5.out⟩
                case measure => simp [intOf]; omega
          · obtain ⟨q, rfl⟩ : ∃ q, k = q + 1 := ⟨k - 1, by omega⟩
            have t1 : decide (x < y) = false := decide_eq_false (by omega)
            have t2 : IntKind.i64.wrap (((q + 1 : Nat) : Int) - 1) = (q : Int) := by rw [show (((q + 1 : Nat) : Int) - 1) = (q : Int) by omega]; exact IntWalk.i64_in _ (by omega)
            simp only [Nat.add_sub_cancel] at hcy
            clear hyx
            go_wp2_with fail
            go_quiet (fail)
            all_goals
              clear hcy t1 t2
              go_wp2_with (at_builtin; refine wpList_append_ints (by rfl) (.tmp 31) (.tmp 34) (by rfl) (.slice none 0 0) 0 [] (by rfl) ?hs (some ⟨g2, off2, none⟩) c2 (out.take (q + 1)) (by first | (rw [HKL.out]; done) | (rw [HKL.out]; rfl)) ?hz ?hb ?_)
              case hs => exact Sl.nil _ _ _
              case hz => exact ints_take (ints_of_Sl (by repeat (first | with_reducible exact HSZ.out | refine Sl.drewN ?_ _ | refine Sl.drew ?_)) rfl) _
              case hb => rw [HKL.out]; omega
              intro A3 c3 w3 hs3 ho3 hl3
              have hb3 := B_only (B_refl _) ho3 (by intro g h; cases h)
              have HS3 := Lib.hid (show Sl w3 3 1 (.slice A3 (q + 1) c3) (q + 1) (encInts (out.take (q + 1))) by first | exact hs3 | simpa [HKL.out] using hs3)
              have HZ3 : Hid (IntsAt w3 ((some ⟨g2, off2, none⟩)) out) := Lib.hid (IntsAt.below (by exact ints_of_Sl (by repeat (first | with_reducible exact HSZ.out | refine Sl.drewN ?_ _ | refine Sl.drew ?_)) rfl) hb3)
              have B3 := Lib.hid (show B w w3 from B_only (by repeat (first | with_reducible exact BZ.out | refine B_drewN ?_ _ | refine B_drew ?_)) ho3 (by intro g h; cases h))
              have HO3 := Lib.hid (lies_newI hl3 (w0 := w) (by intro k hk; cases hk) (by have := BZ.out.size; simpa using this))
              have hcx3 : w3.cell? ⟨g, off + j, none⟩ = some (.int .i64 x) := by
                obtain ⟨_, _, e, h⟩ := (H.out.below B3.out) j x HX.out
                injection e with e
                injection e with e1 e2
                subst e1 e2
                exact h
              have HB3 := Lib.hid hb3
              have HL3 := Lib.hid (lies_newI hl3 (w0 := _) (by intro k hk; cases hk) (Nat.le_refl _))
              have HZW := Lib.hid (ints_of_Sl (by repeat (first | with_reducible exact HSZ.out | refine Sl.drewN ?_ _ | refine Sl.drew ?_)) rfl : IntsAt (wr.drewN nq) ((some ⟨g2, off2, none⟩)) out)
              clear hs3 ho3 hl3 hb3
              go_wp2_with (at_builtin; refine wpList_append_ints (by rfl) (.tmp 36) (.tmp 41) (by rfl) (.slice A3 (q + 1) c3) (q + 1) (out.take (q + 1)) (by rfl) ?hs (some ⟨w3.heap.size, 0, none⟩) 1 [x] (by rfl) ?hz ?hb ?_)
              case hs => repeat (first | with_reducible exact HS3.out | refine Sl.alloc ?_ _)
              case hz => exact one_int (by simp)
              case hb => simp only [List.length_singleton]; omega
              intro A4 c4 w4 hs4 ho4 hl4
              have HS4 := Lib.hid (show Sl w4 3 1 (.slice A4 (q + 1 + 1) c4) (q + 1 + 1) (encInts (out.take (q + 1) ++ [x])) from hs4)
              have B4 := Lib.hid (show B w w4 from B_only (B_alloc B3.out _) ho4 HO3.out)
              have HO4 := Lib.hid (lies_newI hl4 HO3.out (B_alloc B3.out _).size)
              have HK4 := Lib.hid (ints_keep HB3.out HL3.out HZW.out ho4)
              clear hs4 ho4 hl4
              go_wp2_with (at_builtin; refine wpList_append_ints (by rfl) (.tmp 43) (.tmp 46) (by rfl) (.slice A4 (q + 1 + 1) c4) (q + 1 + 1) (out.take (q + 1) ++ [x]) (by rfl) ?hs (if c2 = q + 1 then some ⟨g2, off2, none⟩ else some ⟨g2, off2 + (q + 1), none⟩) (c2 - (q + 1)) (out.drop (q + 1)) (by rw [HDL.out]; rfl) (ints_tail hoc HK4.out) ?hb ?_)
              case hs => exact HS4.out
              case hb => first | (rw [HDL.out]; omega) | omega
              all_goals
                intro A5 c5 w5 hs5 ho5 hl5
                have hL : (q + 1 + 1 + ((out.drop (q + 1))).length) = (out.take (q + 1) ++ [x] ++ out.drop (q + 1)).length := by first | (rw [List.length_append, List.length_append, HKL.out]; done) | (rw [List.length_append, List.length_append, HKL.out]; rfl)
                have hL2 : (out.take (q + 1) ++ [x] ++ out.drop (q + 1)).length = j + 1 := by rw [List.length_append, List.length_append, HKL.out, HDL.out, ← HOL.out]; simp only [List.length_singleton]; omega
                have HS5 := Lib.hid (show Sl w5 3 1 (.slice A5 (q + 1 + 1 + ((out.drop (q + 1))).length) c5) (q + 1 + 1 + ((out.drop (q + 1))).length) (encInts (out.take (q + 1) ++ [x] ++ out.drop (q + 1))) by first | exact hs5 | simpa using hs5 | (rw [HDL.out]; simpa using hs5))
                have HO5 := Lib.hid (lies_newI hl5 HO4.out B4.out.size)
                have B5 := Lib.hid (show B w w5 from B_only B4.out ho5 HO4.out)
                rw [hL] at HS5
                clear hs5 ho5 hl5
                go_wp2_with fail
                go_roundw
                case rel => exact ⟨j + 1, A5, c5, out.take (q + 1) ++ [x] ++ out.drop (q + 1), by omega, by push_cast; rfl, by first | (rw [← hL]; done) | (rw [← hL]; rfl) | (rw [← hL, HDL.out]; done) | (rw [← hL, HDL.out]; rfl), hL2, HPUT, HS5.out, by rw [← hL]; first | exact HO5.out | (rw [HDL.out]; exact HO5.out), B5.out⟩
                case measure => simp [intOf]; omega
        · have HGT := Lib.hid (show ∀ m z, k - 1 ≤ m → out[m]? = some z → x < z from fun m z hm hz => by
            rcases Nat.lt_or_ge m k with hmk | hmk
            · obtain rfl : m = k - 1 := by omega
              rw [hy] at hz
              injection hz with hz
              omega
            · exact hgt.out m z hmk hz)
          obtain ⟨g2, off2, rfl, hcy⟩ := ints_of_Sl HSZ.out rfl (k - 1) y hy
          obtain ⟨q, rfl⟩ : ∃ q, k = q + 1 := ⟨k - 1, by omega⟩
          have t1 : decide (x < y) = true := decide_eq_true hxy
          have t2 : IntKind.i64.wrap (((q + 1 : Nat) : Int) - 1) = (q : Int) := by rw [show (((q + 1 : Nat) : Int) - 1) = (q : Int) by omega]; exact IntWalk.i64_in _ (by omega)
          simp only [Nat.add_sub_cancel] at hcy HGT
          clear hy hxy
          go_wp2_with fail
          go_quiet (fail)
          all_goals
            go_wp2_with fail
            go_roundw
            case rel => exact ⟨q, by omega, rfl, HGT, by repeat (first | with_reducible exact HSZ.out | refine Sl.drewN ?_ _ | refine Sl.drew ?_), by repeat (first | with_reducible exact BZ.out | refine B_drewN ?_ _ | refine B_drew ?_)⟩
            case measure => simp [intOf]
    · obtain rfl : j = l.length := by omega
      have HE := Lib.hid (HN.out out hins.out)
      go_wp2_with fail
      go_ret
      rw [← HE.out]
      exact ⟨A2, c2, _, rfl, ⟨A2, c2, rfl, HSL.out⟩, HOW.out, BR.out⟩
end Go.Proofs.Ytghjhcobmbobcaa.Wt
namespace Go.Proofs.Ytghjhcobmbobcaa.Wt
open Go.RowKit Go.Proofs.Ytghjhcobmbobcaa
theorem sorted_n (w : World) (A : Option Addr) (c n : Nat) (l : List Int) (e : l.length = n) (hl : n ≤ 10000) (hn : l.Nodup) (h : Sl w 3 1 (.slice A n c) n (encInts l)) :
    Calls Try.prog 34 #[.slice A n c] w (ToL w (sortI l)) := by
  subst e
  exact sorted_any w A c l hl hn (ints_of_Sl h rfl)
set_option maxRecDepth 100000 in
set_option maxHeartbeats 2000000 in
theorem refconns_any (w : World) (v1 v2 v3 v4 v5 : Value) (r : RW) (hf : Few r 1000) (h : RWV w v1 v2 v3 v4 v5 r) (hn : (r.first ++ r.idle ++ r.op).Nodup) :
    Calls Try.prog 33 #[.agg #[.int .i64 r.top, v1, v2, v3, v4, v5]] w (ToL w (sortI (r.first ++ r.idle ++ r.op))) := by
  have l1 := hf.l1
  have l2 := hf.l2
  have l3 := hf.l3
  obtain ⟨⟨A1, c1, rfl, s1⟩, ⟨A2, c2, rfl, s2⟩, ⟨A3, c3, rfl, s3⟩, ⟨A4, c4, rfl, -⟩, ⟨A5, c5, rfl, -⟩⟩ := h
  have HN := Lib.hid hn
  have Z1 := Lib.hid (ints_of_Sl s1 rfl)
  have Z2 := Lib.hid (ints_of_Sl s2 rfl)
  have Z3 := Lib.hid (ints_of_Sl s3 rfl)
  clear s1 s2 s3 hn hf
  obtain ⟨W0, hW0⟩ : ∃ W0, W0 = w.alloc (.cells #[.int .i64 r.top, .slice A1 r.first.length c1, .slice A2 r.idle.length c2, .slice A3 r.op.length c3, .slice A4 r.gr.length c4, .slice A5 r.en.length c5] 42) := ⟨_, rfl⟩
  have HW := Lib.hid hW0
  have HB0 := Lib.hid (show B w W0 by rw [hW0]; exact B_alloc (B_refl w) _)
  have HK := Lib.hid (show Blk W0 w.heap.size 42 #[.int .i64 r.top, .slice A1 r.first.length c1, .slice A2 r.idle.length c2, .slice A3 r.op.length c3, .slice A4 r.gr.length c4, .slice A5 r.en.length c5] by rw [hW0]; exact Blk.new _ _ _)
  clear hW0
  go_enter Try.func33, Try.ntmps33
  go_wp2_with (at_builtin; refine wpList_append_ints (by rfl) (.tmp 4) (.tmp 6) (by rfl) (.slice none 0 0) 0 [] (by rfl) ?hs A1 c1 r.first (by rfl) ?hz ?hb ?_)
  case hs => exact Sl.nil _ _ _
  case hz => exact Z1.out.below (B_alloc (B_refl w) _)
  case hb => omega
  rw [← HW.out]
  intro A6 c6 w6 hs6 ho6 hl6
  have HS6 := Lib.hid (show Sl w6 3 1 (.slice A6 r.first.length c6) r.first.length (encInts r.first) by simpa using hs6)
  have B6 := Lib.hid (show B W0 w6 from B_only (B_refl _) ho6 (by intro k hk; cases hk))
  have HO6 := Lib.hid (lies_newI hl6 (w0 := W0) (by intro k hk; cases hk) (Nat.le_refl _))
  have hc6 : w6.cell? ⟨w.heap.size, 2, none⟩ = some (.slice A2 r.idle.length c2) := (HK.out.b B6.out).cell 2
  clear hs6 ho6 hl6
  go_wp2_with (at_builtin; refine wpList_append_ints (by rfl) (.tmp 8) (.tmp 10) (by rfl) (.slice A6 r.first.length c6) r.first.length r.first (by rfl) ?hs A2 c2 r.idle (by rfl) ?hz ?hb ?_)
  case hs => exact HS6.out
  case hz => exact (Z2.out.below HB0.out).below B6.out
  case hb => omega
  intro A7 c7 w7 hs7 ho7 hl7
  have HS7 := Lib.hid (show Sl w7 3 1 (.slice A7 (r.first.length + r.idle.length) c7) (r.first.length + r.idle.length) (encInts (r.first ++ r.idle)) from hs7)
  have B7 := Lib.hid (show B W0 w7 from B_only B6.out ho7 HO6.out)
  have HO7 := Lib.hid (lies_newI hl7 HO6.out B6.out.size)
  have hc7 : w7.cell? ⟨w.heap.size, 3, none⟩ = some (.slice A3 r.op.length c3) := (HK.out.b B7.out).cell 3
  clear hs7 ho7 hl7 hc6
  go_wp2_with (at_builtin; refine wpList_append_ints (by rfl) (.tmp 12) (.tmp 14) (by rfl) (.slice A7 (r.first.length + r.idle.length) c7) (r.first.length + r.idle.length) (r.first ++ r.idle) (by rfl) ?hs A3 c3 r.op (by rfl) ?hz ?hb ?_)
  case hs => exact HS7.out
  case hz => exact (Z3.out.below HB0.out).below B7.out
  case hb => omega
  intro A8 c8 w8 hs8 ho8 hl8
  have HS8 := Lib.hid (show Sl w8 3 1 (.slice A8 (r.first.length + r.idle.length + r.op.length) c8) (r.first.length + r.idle.length + r.op.length) (encInts (r.first ++ r.idle ++ r.op)) by rw [List.append_assoc]; exact hs8)
  have B8 := Lib.hid (show B w w8 from B_trans HB0.out (B_only B7.out ho8 HO7.out))
  clear hs8 ho8 hl8 hc7
  go_wp2_with fail
  refine (sorted_n _ _ _ _ _ (by rw [List.length_append, List.length_append]) (by omega) HN.out HS8.out).mono ?_
  rintro e w9 ⟨A9, c9, n9, rfl, hi, ho, hb⟩
  have HI := Lib.hid hi
  have HO := Lib.hid ho
  have HB := Lib.hid hb
  clear hi ho hb
  go_wp2_with fail
  go_ret
  exact ⟨A9, c9, n9, rfl, HI.out, fun g hg => Nat.le_trans B8.out.size (HO.out g hg), B_trans B8.out HB.out⟩
end Go.Proofs.Ytghjhcobmbobcaa.Wt
namespace Go.Proofs.Ytghjhcobmbobcaa.Wt
open Go.RowKit Go.Proofs.Ytghjhcobmbobcaa
/-- who is greeted and has not ended -/
def still (r : RW) : List Int := r.gr.filter (fun x => !decide (x ∈ r.en))
set_option maxRecDepth 100000 in
set_option maxHeartbeats 4000000 in
theorem refgreeted_any (w : World) (v1 v2 v3 v4 v5 : Value) (r : RW) (hf : Few r 1000) (h : RWV w v1 v2 v3 v4 v5 r) (hn : r.gr.Nodup) :
    Calls Try.prog 35 #[.agg #[.int .i64 r.top, v1, v2, v3, v4, v5]] w (ToL w (sortI (still r))) := by
  have HE := Lib.hid (fun W (hb : B w W) x => has_v W v5 r.en x (by have := hf.l5; omega) (h.h5.below hb))
  have HN := Lib.hid (show (still r).Nodup from hn.filter _)
  have HLN := Lib.hid (show (still r).length ≤ r.gr.length from List.length_filter_le _ _)
  obtain ⟨l, hl⟩ : ∃ l, r.gr = l := ⟨_, rfl⟩
  have l4 : l.length ≤ 1000 := hl ▸ hf.l4
  have HST := Lib.hid (show still r = l.filter (fun x => !decide (x ∈ r.en)) by unfold still; rw [hl])
  obtain ⟨⟨A1, c1, rfl, -⟩, ⟨A2, c2, rfl, -⟩, ⟨A3, c3, rfl, -⟩, ⟨A4, c4, rfl, s4⟩, ⟨A5, c5, rfl, -⟩⟩ := h
  have Z4 := Lib.hid (ints_of_Sl s4 rfl)
  rw [hl] at Z4 HLN ⊢
  clear s4 hn hf hl
  obtain ⟨W0, hW0⟩ : ∃ W0, W0 = w.alloc (.cells #[.int .i64 r.top, .slice A1 r.first.length c1, .slice A2 r.idle.length c2, .slice A3 r.op.length c3, .slice A4 l.length c4, .slice A5 r.en.length c5] 42) := ⟨_, rfl⟩
  have HW := Lib.hid hW0
  have HB0 := Lib.hid (show B w W0 by rw [hW0]; exact B_alloc (B_refl w) _)
  have HK := Lib.hid (show Blk W0 w.heap.size 42 #[.int .i64 r.top, .slice A1 r.first.length c1, .slice A2 r.idle.length c2, .slice A3 r.op.length c3, .slice A4 l.length c4, .slice A5 r.en.length c5] by rw [hW0]; exact Blk.new _ _ _)
  clear hW0
  go_enter Try.func35, Try.ntmps35
  go_wp2_with fail
  go_loopw [3, 4, 5] (fun s3 s4 _ wr => ∃ (j n : Nat) (A6 : Option Addr) (c6 : Nat) (k : List Int), j ≤ l.length ∧ n ≤ j ∧ s4 = .int .i64 j ∧ s3 = .slice A6 n c6 ∧ Hid (k = (l.take j).filter (fun x => !decide (x ∈ r.en))) ∧ k.length = n ∧ Sl wr 3 1 (.slice A6 n c6) n (encInts k) ∧ (∀ g, Value.ownBlock (.slice A6 n c6) = some g → W0.heap.size ≤ g) ∧ B W0 wr) (fun _ s _ _ => l.length - (intOf s).toNat)
  case atStart => exact ⟨0, 0, none, 0, [], Nat.zero_le _, Nat.le_refl _, rfl, rfl, Lib.hid rfl, rfl, Sl.nil _ _ _, fun g hg => (by cases hg), by rw [← HW.out]; repeat (first | with_reducible exact B_refl _ | refine B_drew ?_ | refine B_drewN ?_ _)⟩
  case round =>
    obtain ⟨j, n, A6, c6, k, hj, hnj, rfl, rfl, hk, hkn, hsl, how, hr⟩ := hrel
    have BR := Lib.hid hr
    have HSL := Lib.hid hsl
    have HOW := Lib.hid how
    have hc4 : wr.cell? ⟨w.heap.size, 4, none⟩ = some (.slice A4 l.length c4) := (HK.out.b BR.out).cell 4
    have hc5 : wr.cell? ⟨w.heap.size, 5, none⟩ = some (.slice A5 r.en.length c5) := (HK.out.b BR.out).cell 5
    clear hr hsl how
    by_cases hjm : j < l.length
    · obtain ⟨x, hx⟩ : ∃ x, l[j]? = some x := ⟨_, List.getElem?_eq_getElem hjm⟩
      obtain ⟨g, off, rfl, hc⟩ := ((Z4.out.below HB0.out).below BR.out) j x hx
      have hxe := (List.getElem?_eq_some_iff.1 hx).2
      have HH := Lib.hid (fun W (hb : B wr W) => HE.out W (B_trans (B_trans HB0.out BR.out) hb) x)
      by_cases hxi : x ∈ r.en
      · have t0 : decide (x ∈ r.en) = true := decide_eq_true hxi
        rw [t0] at HH
        have HK2 := Lib.hid (show k = (l.take (j + 1)).filter (fun x => !decide (x ∈ r.en)) by
          rw [hk.out, List.take_succ_eq_append_getElem hjm, hxe, List.filter_append, List.filter_cons, t0]
          simp)
        clear hx hxi hxe t0
        go_wp2_with fail
        go_quiet ((go_at_call 28; with_reducible exact Calls.quiet_of_same (HH.out _ (by repeat (first | with_reducible exact B_refl _ | refine B_drew ?_ | refine B_drewN ?_ _)))))
        all_goals
          go_wp2_with fail
          go_roundw
          case rel => exact ⟨j + 1, n, A6, c6, k, by omega, by omega, by push_cast; rfl, rfl, HK2, hkn, HSL.out, HOW.out, by repeat (first | with_reducible exact BR.out | refine B_drew ?_ | refine B_drewN ?_ _)⟩
          case measure => simp [intOf]; omega
      · have t0 : decide (x ∈ r.en) = false := decide_eq_false hxi
        rw [t0] at HH
        have HK2 := Lib.hid (show k ++ [x] = (l.take (j + 1)).filter (fun x => !decide (x ∈ r.en)) by
          rw [hk.out, List.take_succ_eq_append_getElem hjm, hxe, List.filter_append, List.filter_cons, t0]
          simp)
        clear hx hxi hxe t0
        go_wp2_with fail
        go_quiet ((go_at_call 28; with_reducible exact Calls.quiet_of_same (HH.out _ (by repeat (first | with_reducible exact B_refl _ | refine B_drew ?_ | refine B_drewN ?_ _)))))
        all_goals
          go_wp2_with (at_builtin; refine wpList_append_ints (by rfl) (.tmp 23) (.tmp 29) (by rfl) (.slice A6 n c6) n k (by rfl) ?hs (some ⟨wr.heap.size, 0, none⟩) 1 [x] (by rfl) ?hz ?hb ?_)
          case hs => repeat (first | with_reducible exact HSL.out | refine Sl.alloc ?_ _ | refine Sl.drewN ?_ _ | refine Sl.drew ?_)
          case hz => exact one_int ((Blk.new (wr.drewN nq) 3 #[.int .i64 x]).cell 0)
          case hb => simp only [List.length_singleton]; omega
          intro A7 c7 w7 hs7 ho7 hl7
          have HS7 := Lib.hid (show Sl w7 3 1 (.slice A7 (n + 1) c7) (n + 1) (encInts (k ++ [x])) from hs7)
          have B7 := Lib.hid (show B W0 w7 from B_only (B_alloc (by repeat (first | with_reducible exact BR.out | refine B_drew ?_ | refine B_drewN ?_ _)) _) ho7 HOW.out)
          have HO7 := Lib.hid (lies_newI hl7 HOW.out (B_alloc (by repeat (first | with_reducible exact BR.out | refine B_drew ?_ | refine B_drewN ?_ _)) _).size)
          clear hs7 ho7 hl7
          go_wp2_with fail
          go_roundw
          case rel => exact ⟨j + 1, n + 1, A7, c7, k ++ [x], by omega, by omega, by push_cast; rfl, rfl, HK2, by simp [hkn], HS7.out, HO7.out, B7.out⟩
          case measure => simp [intOf]; omega
    · obtain rfl : j = l.length := by omega
      have HKF := Lib.hid (show still r = k by rw [HST.out, hk.out, List.take_length])
      rw [HKF.out] at HN
      clear hk
      go_wp2_with fail
      refine (sorted_n _ _ _ _ k hkn (by omega) HN.out HSL.out).mono ?_
      rintro e w9 ⟨A9, c9, n9, rfl, hi, ho, hb⟩
      have HI := Lib.hid hi
      have HO := Lib.hid ho
      have HB := Lib.hid hb
      have B8 := Lib.hid (B_trans HB0.out BR.out)
      clear hi ho hb
      go_wp2_with fail
      go_ret
      exact ⟨A9, c9, n9, rfl, by rw [HKF.out]; exact HI.out, fun g hg => Nat.le_trans B8.out.size (HO.out g hg), B_trans B8.out HB.out⟩
end Go.Proofs.Ytghjhcobmbobcaa.Wt
