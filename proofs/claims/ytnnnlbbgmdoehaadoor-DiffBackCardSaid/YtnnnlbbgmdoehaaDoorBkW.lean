/- DiffBack returns true, for all lists of texts and all texts: its walk. -/
import Derived.Test.YtnnnlbbgmdoehaaDoorBkA
import Derived.Test.YtnnnlbbgmdoehaaDoorBkB
import Derived.Test.YtnnnlbbgmdoehaaDoorBkC
import Derived.Test.YtnnnlbbgmdoehaaDoorBkD
import Derived.Lib.Hide
namespace Go.Proofs.YtnnnlbbgmdoehaaDoor.PDiffReads
open Go.Proofs.YtnnnlbbgmdoehaaDoor.Rd Go.RowKit Go.Proofs.YtnnnlbbgmdoehaaDoorW.PrintWords Go.Proofs.YtnnnlbbgmdoehaaDoorW.PrintLast Go.Proofs.YtnnnlbbgmdoehaaDoorW.PrintMore Go.Proofs.YtnnnlbbgmdoehaaDoor.Pure Go.Proofs.YtnnnlbbgmdoehaaDoor.Df Go.Proofs.YtnnnlbbgmdoehaaDoor
theorem few_text (l : List ByteArray) : (textV (fewV l)).size ≤ 999 := by
  unfold textV
  split
  · exact of_decide_eq_true rfl
  · have h1 := (few_small l).2
    have := join_le (sep := [44]) (by decide) (B := 20) (L := (fewV l).map (·.data.toList)) (fun x hx => by
      obtain ⟨s, hs, rfl⟩ := List.mem_map.1 hx
      unfold fewV at hs
      obtain ⟨t, _, rfl⟩ := List.mem_map.1 hs
      rw [Array.length_toList]
      show (cut20 t).size ≤ 20
      unfold cut20
      rw [ByteArray.size_extract]
      omega)
    rw [List.length_map] at this
    have h2 : (fewV l).length * (20 + 1) ≤ 20 * 21 := Nat.mul_le_mul_right _ h1
    show (Lib.join ((fewV l).map (·.data.toList)) [44]).toArray.size ≤ 999
    rw [List.size_toArray]
    omega
theorem back_walk (a0 : Option Addr) (len0 cap0 : Nat) (z0 : List ByteArray) (s : ByteArray) (w : World) (w0 : ((a0 = none ∧ len0 = 0 ∧ cap0 = 0 ∧ z0 = []) ∨ ∃ x, a0 = some x ∧ len0 ≤ cap0 ∧ cap0 ≤ maxLen ∧ z0.length = cap0 ∧ (∀ i, i < z0.length → w.cell? (x.add i) = some (.string (z0.getD i ByteArray.empty))))) (ws : s.size ≤ maxLen) (hmx : HM w) :
    Calls Tryd.prog 4 #[.slice a0 len0 cap0, .string s] w fun e w' => e = .returned (.bool true) ∧ Below w.heap.size w w' := by
  unfold maxLen at ws
  obtain ⟨l0, rfl, hr0, hc0⟩ := row_reads w0
  have HR0 := Lib.hid (fun W (hb : Below w.heap.size w W) => Kd.C_below hr0 hb)
  obtain ⟨m, t, hmin, hsl, ht2⟩ := cut_facts s
  obtain ⟨K, hK⟩ : ∃ K, K = 5000 := ⟨_, rfl⟩
  have g0 := few_is l0 K (by omega)
  obtain ⟨sa, la⟩ := few_small l0
  have hft := few_text l0
  generalize fewV l0 = a at g0 sa la hft
  have G0 := Lib.hid g0
  have S1 := Lib.hid (same_is a K (by omega) (by omega))
  have HTX := Lib.hid (fun A c W h1 h2 => text_any A c a W h1 h2 sa)
  have HRA := Lib.hid (fun W hW => read_any (textV a) hft W hW)
  have HCK := Lib.hid (fun A c W h1 => check_any A c a W h1 sa)
  have HRT := Lib.hid (fun W hW => read_any t (by omega : t.size ≤ 999) W hW)
  have A0 := Lib.hid (rfl : a.getD 0 ByteArray.empty = a.getD 0 ByteArray.empty)
  have hsq := readV_small t (by omega)
  have hx : ∀ ta0 ci0 : Unit, ((readV t).2 != 0) = true ∨ ((readV t).2 = 0 ∧ textV (readV t).1 = t ∧ checkV (readV t).1 = 0) := by
    intro _ _
    by_cases h : (readV t).2 = 0
    · exact .inr ⟨h, back2 h⟩
    · exact .inl (bne_iff_ne.2 h)
  have hq : (readV t).2 = 0 → (∀ A c W, Kd.C Kd.string W A (readV t).1.length (readV t).1 → (readV t).1.length ≤ c → Calls Tryd.prog 11 #[.slice A (readV t).1.length c] W fun e w' => e = .returned (.string t) ∧ Below W.heap.size W w') ∧ (∀ A c W, Kd.C Kd.string W A (readV t).1.length (readV t).1 → Calls Tryd.prog 14 #[.slice A (readV t).1.length c] W fun e w' => e = .returned (.int .i64 0) ∧ Below W.heap.size W w') := by
    intro h
    obtain ⟨e1, e2⟩ := back2 h
    refine ⟨fun A c W h1 h2 => ?_, fun A c W h1 => ?_⟩
    · have := text_any A c (readV t).1 W h1 h2 hsq
      rwa [e1] at this
    · have := check_any A c (readV t).1 W h1 hsq
      rwa [e2] at this
  by_cases hca : checkV a = 0
  · by_cases hd : a = [⟨#[45]⟩]
    · have h1 : a.length = 1 := by rw [hd]; rfl
      have h2 : (a.getD 0 ByteArray.empty).toList = [45] := by rw [hd, ByteArray.toList_eq]; rfl
      rcases hx () () with h | ⟨h, _⟩
      · exact back_2_1 K a0 cap0 l0 a _ _ s t _ _ m _ _ _ w HR0 hc0 (Lib.hid hmx) (by omega) hmin hsl G0 S1 A0 HTX HRA HCK HRT hca h1 h2 h
      · exact back_2_2 K a0 cap0 l0 a _ _ s t _ _ m _ _ _ w HR0 hc0 (Lib.hid hmx) (by omega) hmin hsl G0 S1 A0 HTX HRA HCK HRT hca h1 h2 h (hq h).1 (hq h).2
    · have hb := (back1 la hca hd).2
      have hp : a = (readV (textV a)).1 := by rw [hb]
      have he : (readV (textV a)).2 = 0 := by rw [hb]
      by_cases h1 : a.length = 1
      · have h2 : (a.getD 0 ByteArray.empty).toList ≠ [45] := by
          intro e
          apply hd
          match a, h1, e with
          | [x], _, e => exact congrArg (fun y => [y]) (dash_eq e)
        rcases hx () () with h | ⟨h, _⟩
        · exact back_4_1 K a0 cap0 l0 a _ _ s t _ _ m _ _ _ w HR0 hc0 (Lib.hid hmx) (by omega) hmin hsl G0 S1 A0 HTX HRA HCK HRT hca h1 h2 hp he h
        · exact back_4_2 K a0 cap0 l0 a _ _ s t _ _ m _ _ _ w HR0 hc0 (Lib.hid hmx) (by omega) hmin hsl G0 S1 A0 HTX HRA HCK HRT hca h1 h2 hp he h (hq h).1 (hq h).2
      · rcases hx () () with h | ⟨h, _⟩
        · exact back_3_1 K a0 cap0 l0 a _ _ s t _ _ m _ _ _ w HR0 hc0 (Lib.hid hmx) (by omega) hmin hsl G0 S1 A0 HTX HRA HCK HRT hca h1 hp he h
        · exact back_3_2 K a0 cap0 l0 a _ _ s t _ _ m _ _ _ w HR0 hc0 (Lib.hid hmx) (by omega) hmin hsl G0 S1 A0 HTX HRA HCK HRT hca h1 hp he h (hq h).1 (hq h).2
  · have hc := beq_eq_false_iff_ne.2 hca
    rcases hx () () with h | ⟨h, _⟩
    · exact back_1_1 K a0 cap0 l0 a _ _ s t _ _ m _ _ _ w HR0 hc0 (Lib.hid hmx) (by omega) hmin hsl G0 S1 A0 HTX HRA HCK HRT hc h
    · exact back_1_2 K a0 cap0 l0 a _ _ s t _ _ m _ _ _ w HR0 hc0 (Lib.hid hmx) (by omega) hmin hsl G0 S1 A0 HTX HRA HCK HRT hc h (hq h).1 (hq h).2
end Go.Proofs.YtnnnlbbgmdoehaaDoor.PDiffReads
