/- FrontRounds: what the law's call comes to. -/
import Derived.Test.YtdmhlnjlbcapoaaFrI
namespace Go.Proofs.Ytdmhlnjlbcapoaa
open Go.RowKit
theorem flat_int : Flat Try.prog 3 [.int] := Flat.int Try.underlying3
theorem flat_bool : Flat Try.prog 4 [.bool] := Flat.bool Try.underlying4
abbrev q3 : Int × ByteArray := (3, ⟨#[]⟩)
theorem take_more (j : Nat) (h : j < 4) : takeOf 2 (List.replicate j q3) (3, ⟨#[]⟩) = (2, 3, List.replicate (j + 1) q3) := by
  have h1 : onDo 2 3 = 3 := by kernel_rfl
  have h2 : onTo 2 3 = 2 := by kernel_rfl
  unfold takeOf
  rw [h1, h2, if_pos rfl, if_pos (by simpa using h), List.replicate_succ']
theorem mod4 (x : Int) : ∃ m : Nat, m ≤ 3 ∧ wrap64 ((IntKind.u64.wrap x).tmod 4) = m ∧ IntKind.i64.wrap ((IntKind.u64.wrap x).tmod 4) = m := by
  have h0 : 0 ≤ IntKind.u64.wrap x := by rw [IntKind.wrap_u64]; exact Int.emod_nonneg _ (by decide)
  rw [Int.tmod_eq_emod_of_nonneg h0]
  have := Int.emod_nonneg (IntKind.u64.wrap x) (show (4 : Int) ≠ 0 by decide)
  have := Int.emod_lt_of_pos (IntKind.u64.wrap x) (show (0 : Int) < 4 by decide)
  refine ⟨((IntKind.u64.wrap x) % 4).toNat, by omega, ?_, ?_⟩
  · unfold wrap64
    omega
  · rw [IntKind.wrap_i64]
    omega
abbrev NoX : Nat → Prop := fun _ => False
set_option maxRecDepth 100000 in
set_option maxHeartbeats 4000000 in
theorem walk_FrontRounds (w : World) (A : Option Addr) (len cap : Nat) (_ : len ≤ cap) (_ : cap ≤ maxLen) (y : len * 8 ≤ 140737488351232) (xs : List Value) (_ : xs.length = len * 1)
    (rd : Rds w A xs) (lf : ∀ (i j : Nat) (k : FK), i < len → [FK.int][j]? = some k → ∃ u, xs[i * 1 + j]? = some u ∧ leafOk k u)
    (A2 : Option Addr) (len2 cap2 : Nat) (_ : len2 ≤ cap2) (_ : cap2 ≤ maxLen) (y2 : len2 * 1 ≤ 140737488351232) (xs2 : List Value) (_ : xs2.length = len2 * 1)
    (rd2 : Rds w A2 xs2) (lf2 : ∀ (i j : Nat) (k : FK), i < len2 → [FK.bool][j]? = some k → ∃ u, xs2[i * 1 + j]? = some u ∧ leafOk k u) :
    Calls Try.prog 3 #[.slice A len cap, .slice A2 len2 cap2] w fun e w' => e = .returned (.bool true) ∧ B w w' := by
  have RD := Lib.hid rd
  have RD2 := Lib.hid rd2
  have LFQ := Lib.hid lf
  have LFE := Lib.hid lf2
  clear rd rd2 lf lf2
  go_enter Try.func3, Try.ntmps3
  go_wp2_with fail
  refine (lives_any _).mono ?_
  rintro e w1 ⟨rfl, hb1⟩
  go_wp2_with fail
  refine (LF.new (X := NoX) hb1 (fun _ h => h.elim)).mono ?_
  rintro e w2 ⟨rfl, h2, _⟩
  obtain ⟨b, hb⟩ : ∃ b, b = w1.heap.size := ⟨_, rfl⟩
  rw [← hb] at h2 ⊢
  clear hb hb1
  go_wp2_with fail
  refine (h2.take 1 _ 1 1 [] (by kernel_rfl)).mono ?_
  rintro e w3 ⟨rfl, h3, _⟩
  clear h2
  go_wp2_with fail
  go_loopw [6] (fun i wr => ∃ k : Nat, k ≤ len ∧ i = .int .i64 k ∧ LF NoX w wr b 1 []) (fun i _ => len - (intOf i).toNat)
  case atStart => exact ⟨0, Nat.zero_le _, rfl, h3⟩
  case round =>
    obtain ⟨k, hk, rfl, hL⟩ := hrel
    clear h3
    have HL := Lib.hid hL
    clear hL
    by_cases hlt : k < len ∧ k < 20
    · obtain ⟨hlt, h20⟩ := hlt
      obtain ⟨u, hu, n0, rfl, _⟩ := LFQ.out k 0 .int hlt rfl
      obtain ⟨g, o, rfl, hg, hc⟩ := RD.out.at_ hu
      have c1 := (HL.out.below.cell (p := ⟨g, o + k, none⟩) hg).trans (hc k _ (by simpa using hu))
      obtain ⟨m, hm, em, em'⟩ := mod4 n0
      have h20' : (k : Int) < 20 := by omega
      have hm' : (m : Int) ≤ 3 := by omega
      clear hc
      rcases (show ¬ k < len2 ∨ k < len2 by omega) with he | he
      · go_wp2_with fail
        refine (HL.out.take 2 _ 2 2 [] (by kernel_rfl)).mono ?_
        rintro e w4 ⟨rfl, h4, _⟩
        have hB4 := h4.below
        go_wp2_with fail
        refine h4.state.mono ?_
        rintro e w5 ⟨rfl, rfl⟩
        go_wp2_with fail
        refine h4.bound.mono ?_
        rintro e w5 ⟨rfl, h5, _⟩
        clear h4
        go_wp2_with fail
        go_loopw [10] (fun i wr => ∃ j : Nat, j ≤ m ∧ i = .int .i64 j ∧ LF NoX w wr b 3 []) (fun i _ => m - (intOf i).toNat)
        case atStart => exact ⟨0, Nat.zero_le _, rfl, h5⟩
        case round =>
          obtain ⟨j, hj, rfl, hL⟩ := hrel
          by_cases hjm : j < m
          · go_wp2_with fail
            refine (hL.take 3 _ 3 4 [] (by kernel_rfl)).mono ?_
            rintro e w7 ⟨rfl, h7, _⟩
            go_wp2_with fail
            go_roundw
            case rel => exact ⟨j + 1, by omega, by go_num, h7⟩
            case measure => simp [intOf]; omega
          · go_wp2_with fail
            refine (hL.take 4 _ 4 4 [] (by kernel_rfl)).mono ?_
            rintro e w8 ⟨rfl, h8, _⟩
            have H8 := Lib.hid h8
            clear h8
            go_wp2_with fail
            refine H8.out.state.mono ?_
            rintro e w9 ⟨rfl, rfl⟩
            go_wp2_with fail
            refine H8.out.done.mono ?_
            rintro e w9 ⟨rfl, h9, _⟩
            have H9 := Lib.hid (show LF NoX w w9 b 1 [] from h9)
            clear h9
            go_wp2_with fail
            refine H9.out.state.mono ?_
            rintro e w10 ⟨rfl, rfl⟩
            go_wp2_with fail
            refine H9.out.held.mono ?_
            rintro e w10 ⟨rfl, rfl⟩
            go_wp2_with fail
            go_roundw
            case rel => exact ⟨k + 1, by omega, by go_num, H9.out⟩
            case measure => simp [intOf]; omega
      · obtain ⟨u2, hu2, be, rfl⟩ := LFE.out k 0 .bool he rfl
        obtain ⟨g2, o2, rfl, hg2, hc2⟩ := RD2.out.at_ hu2
        have c2 := (HL.out.below.cell (p := ⟨g2, o2 + k, none⟩) hg2).trans (hc2 k _ (by simpa using hu2))
        clear hc2
        cases be
        · go_wp2_with fail
          refine (HL.out.take 2 _ 2 2 [] (by kernel_rfl)).mono ?_
          rintro e w4 ⟨rfl, h4, _⟩
          have hB4 := h4.below
          go_wp2_with fail
          refine h4.state.mono ?_
          rintro e w5 ⟨rfl, rfl⟩
          go_wp2_with fail
          refine h4.bound.mono ?_
          rintro e w5 ⟨rfl, h5, _⟩
          clear h4
          go_wp2_with fail
          go_loopw [10] (fun i wr => ∃ j : Nat, j ≤ m ∧ i = .int .i64 j ∧ LF NoX w wr b 3 []) (fun i _ => m - (intOf i).toNat)
          case atStart => exact ⟨0, Nat.zero_le _, rfl, h5⟩
          case round =>
            obtain ⟨j, hj, rfl, hL⟩ := hrel
            by_cases hjm : j < m
            · go_wp2_with fail
              refine (hL.take 3 _ 3 4 [] (by kernel_rfl)).mono ?_
              rintro e w7 ⟨rfl, h7, _⟩
              go_wp2_with fail
              go_roundw
              case rel => exact ⟨j + 1, by omega, by go_num, h7⟩
              case measure => simp [intOf]; omega
            · go_wp2_with fail
              refine (hL.take 4 _ 4 4 [] (by kernel_rfl)).mono ?_
              rintro e w8 ⟨rfl, h8, _⟩
              have H8 := Lib.hid h8
              clear h8
              go_wp2_with fail
              refine H8.out.state.mono ?_
              rintro e w9 ⟨rfl, rfl⟩
              go_wp2_with fail
              refine H8.out.done.mono ?_
              rintro e w9 ⟨rfl, h9, _⟩
              have H9 := Lib.hid (show LF NoX w w9 b 1 [] from h9)
              clear h9
              go_wp2_with fail
              refine H9.out.state.mono ?_
              rintro e w10 ⟨rfl, rfl⟩
              go_wp2_with fail
              refine H9.out.held.mono ?_
              rintro e w10 ⟨rfl, rfl⟩
              go_wp2_with fail
              go_roundw
              case rel => exact ⟨k + 1, by omega, by go_num, H9.out⟩
              case measure => simp [intOf]; omega
        · go_wp2_with fail
          refine (HL.out.take 2 _ 2 2 [] (by kernel_rfl)).mono ?_
          rintro e w4 ⟨rfl, h4, _⟩
          go_wp2_with fail
          refine h4.state.mono ?_
          rintro e w5 ⟨rfl, rfl⟩
          go_wp2_with fail
          go_loopw [10] (fun i wr => ∃ j : Nat, j ≤ m ∧ i = .int .i64 j ∧ LF NoX w wr b 2 (List.replicate j q3)) (fun i _ => m - (intOf i).toNat)
          case atStart => exact ⟨0, Nat.zero_le _, rfl, h4⟩
          case round =>
            obtain ⟨j, hj, rfl, hL⟩ := hrel
            by_cases hjm : j < m
            · go_wp2_with fail
              refine (hL.take 3 ⟨#[]⟩ 2 3 (List.replicate (j + 1) q3) (take_more j (by omega))).mono ?_
              rintro e w7 ⟨rfl, h7, _⟩
              go_wp2_with fail
              go_roundw
              case rel => exact ⟨j + 1, by omega, by go_num, h7⟩
              case measure => simp [intOf]; omega
            · obtain rfl : j = m := by omega
              go_wp2_with fail
              refine hL.held.mono ?_
              rintro e w8 ⟨rfl, rfl⟩
              rw [List.length_replicate]
              go_wp2_with fail
              refine hL.bound.mono ?_
              rintro e w8 ⟨rfl, h8, _⟩
              have H8 := Lib.hid (show LF NoX w w8 b 3 (List.replicate j q3) from h8)
              clear h8 hL
              go_wp2_with fail
              go_loopw [11] (fun i wr => ∃ p : Nat, p ≤ j ∧ i = .int .i64 p ∧ LF NoX w wr b 3 (List.replicate (j - p) q3)) (fun i _ => j - (intOf i).toNat)
              case atStart => exact ⟨0, Nat.zero_le _, rfl, H8.out⟩
              case round =>
                obtain ⟨p, hp, rfl, hL⟩ := hrel
                by_cases hpj : p < j
                · obtain ⟨r, hr⟩ : ∃ r, j - p = r + 1 := ⟨j - p - 1, by omega⟩
                  rw [hr] at hL
                  go_wp2_with fail
                  refine (LF.next_yes (x := q3) (hs := List.replicate r q3) hL (by decide) (by decide) 3 4 (List.replicate r q3) (by kernel_rfl)).mono ?_
                  rintro e w11 ⟨rfl, h11, _⟩
                  go_wp2_with fail
                  go_roundw
                  case rel => exact ⟨p + 1, by omega, by go_num, by rw [show j - (p + 1) = r by omega]; exact h11.alloc _⟩
                  case measure => simp [intOf]; omega
                · obtain rfl : p = j := by omega
                  rw [Nat.sub_self] at hL
                  go_wp2_with fail
                  refine ((show LF NoX w _ b 3 [] from hL).take 4 _ 4 4 [] (by kernel_rfl)).mono ?_
                  rintro e w8 ⟨rfl, h8, _⟩
                  have H8 := Lib.hid h8
                  clear h8
                  go_wp2_with fail
                  refine H8.out.state.mono ?_
                  rintro e w9 ⟨rfl, rfl⟩
                  go_wp2_with fail
                  refine H8.out.done.mono ?_
                  rintro e w9 ⟨rfl, h9, _⟩
                  have H9 := Lib.hid (show LF NoX w w9 b 1 [] from h9)
                  clear h9
                  go_wp2_with fail
                  refine H9.out.state.mono ?_
                  rintro e w10 ⟨rfl, rfl⟩
                  go_wp2_with fail
                  refine H9.out.held.mono ?_
                  rintro e w10 ⟨rfl, rfl⟩
                  go_wp2_with fail
                  go_roundw
                  case rel => exact ⟨k + 1, by omega, by go_num, H9.out⟩
                  case measure => simp [intOf]; omega
    · rcases (show ¬ k < len ∨ (k < len ∧ ¬ (k : Int) < 20) by omega) with hn | ⟨hn, hn'⟩
      all_goals
        go_wp2_with fail
        refine HL.out.state.mono ?_
        rintro e w4 ⟨rfl, rfl⟩
        go_wp2
        go_ret
        exact ⟨rfl, HL.out.below⟩
end Go.Proofs.Ytdmhlnjlbcapoaa
