/- Builder.WriteString; trace.Lines. -/
import Derived.Test.YthalpaggcdpcbaaDoorTrZ
import Derived.Lib.AppendStr
namespace Go.Proofs.YthalpaggcdpcbaaDoor.Tr
open Go.RowKit Go.Proofs.YthalpaggcdpcbaaDoor Go.Proofs.YthalpaggcdpcbaaDoor.Nm Go.Proofs.YthalpaggcdpcbaaDoor.Cf
attribute [local go_sem ↓ high] exec_cat
attribute [local go_sem] strOf_str
attribute [local go_sem ↓ high] exec_cat_k exec_cat_l
set_option maxRecDepth 100000 in
set_option maxHeartbeats 2000000 in
theorem writeString_any {B b : Nat} {bs : List UInt8} (s : ByteArray) (w : World) (h : BX w B b bs) (hlen : bs.length + s.size ≤ 140737488355328) (hBw : B ≤ w.heap.size) :
    Calls Tryd.prog 32 #[.pointer (some ⟨b, 0, none⟩), .string s] w fun e w' => e = .returned (.tuple #[.int .i64 (s.size : Int), .nilIface]) ∧ BX w' B b (bs ++ s.data.toList) ∧ OB B b w w' := by
  obtain ⟨i0, hi, hz0, hz1, hz2⟩ := info_parts infoU
  have HCP := Lib.hid (copy_any w h)
  go_enter Tryd.func32, Tryd.ntmps32
  go_wp2_with fail
  refine HCP.out.mono ?_
  rintro e w1 ⟨rfl, ⟨v, hbk, hown, hne⟩, ho⟩
  have c0 : w1.cell? ⟨b, 0, none⟩ = some (.pointer (some ⟨b, 0, none⟩)) := by rw [Lib.cell_of_heap hbk]; rfl
  have c1 : w1.cell? ⟨b, 1, none⟩ = some v := by rw [Lib.cell_of_heap hbk]; rfl
  have hlt : b < w1.heap.size := by
    rcases Nat.lt_or_ge b w1.heap.size with h' | h'
    · exact h'
    · simp [Array.getElem?_eq_none h'] at hbk
  have HO := Lib.hid ho
  have HOW := Lib.hid hown
  have HBK := Lib.hid hbk
  have HNE := Lib.hid hne
  clear ho hown hbk hne h
  go_wp2_with (at_builtin; refine Go.Lib.wpList_append_own_string _ (by rfl) _ _ 50 9 rfl B TU i0 Tryd.underlying50 Tryd.underlying9 hi hz0 hz1 hz2 _ _ _ rfl HOW.out s rfl ?c3 ?c4 ?c5 ?_)
  case c3 => unfold maxLen; omega
  case c4 => omega
  case c5 => have := HO.out.size; simp; omega
  intro v' w2 hown' hgrow _
  have hb1 := HBK.out
  have hb2 : w2.heap[b]? = some (.cells #[.pointer (some ⟨b, 0, none⟩), v] TB (0, 0)) := by
    rw [hgrow.block b hlt (fun e => HNE.out e.symm)]
    exact hb1
  have d0 : w2.cell? ⟨b, 0, none⟩ = some (.pointer (some ⟨b, 0, none⟩)) := by rw [Lib.cell_of_heap hb2]; rfl
  have d1 : w2.cell? ⟨b, 1, none⟩ = some v := by rw [Lib.cell_of_heap hb2]; rfl
  have f1 : w2.frozen? ⟨b, 1, none⟩ = false := Lib.frozen_of_heap hb2 1
  have HD := Lib.hid (bx_done (bs := bs ++ s.data.toList) HO.out (B_refl w1) hBw hlt hb1 HOW.out HNE.out (by rw [byteC_append, List.length_append, show s.data.toList.length = s.size by simp]; exact hown') hgrow)
  obtain ⟨ao, n', cap, rfl⟩ : ∃ ao n' cap, v' = .slice ao n' cap := by
    rcases hown'.2 with ⟨hv, _⟩ | ⟨g, cap, cur, hv, _⟩
    · exact ⟨_, _, _, hv⟩
    · exact ⟨_, _, _, hv⟩
  clear hown' hgrow hb1 hb2
  go_wp2_with fail
  go_ret2
  exact ⟨rfl, HD.out.1, HD.out.2⟩
theorem B_only1 {w w1 w2 : World} (h : Below w.heap.size w w1) (ho : OB (w.heap.size + 1) w.heap.size w1 w2) : Below w.heap.size w w2 :=
  ((Only.of_B (F := fun _ => False) h).trans_new ho fun i hi he => by omega).to_B fun _ _ h => h
set_option maxRecDepth 100000 in
set_option maxHeartbeats 4000000 in
theorem lines_any (A : Option Addr) (c : Nat) (l : List OutV) (hn : l.length ≤ 100) (hc : l.length ≤ c) (hs : ∀ o ∈ l, Short o) (w : World) (h : OutsAt w A l) (hv : VarsC w) :
    Calls Tryd.prog 15 #[.slice A l.length c] w fun e w' => e = .returned (.string (bs (linesL l))) ∧ Below w.heap.size w w' := by
  have H := Lib.hid h
  have HS := Lib.hid hs
  have HV := Lib.hid hv
  have HB0 := Lib.hid (B_alloc (B_refl w) (.cells #[.pointer none, .slice none 0 0] TB))
  have HX0 := Lib.hid (BX.new w (w.heap.size + 1))
  clear h hs hv
  go_enter Tryd.func15, Tryd.ntmps15
  go_wp2_with fail
  go_loopw [10] (fun i wr => ∃ j : Nat, j ≤ l.length ∧ i = .int .i64 j ∧ BX wr (w.heap.size + 1) w.heap.size (linesL (l.take j)) ∧ B w wr ∧ w.heap.size + 1 ≤ wr.heap.size) (fun i _ => l.length - (intOf i).toNat)
  case atStart => exact ⟨0, Nat.zero_le _, rfl, HX0.out, HB0.out, by simp⟩
  case round =>
    obtain ⟨j, hj, rfl, hbx, hr, hwr⟩ := hrel
    have BR := Lib.hid hr
    have HX := Lib.hid hbx
    clear hr hbx
    by_cases hjm : j < l.length
    · obtain ⟨o, ho⟩ : ∃ o, l[j]? = some o := ⟨_, List.getElem?_eq_getElem hjm⟩
      obtain ⟨g, off, rfl, c0, c1, c2, c3, c4⟩ := (H.out.below BR.out) j o ho
      have hso := HS.out o (List.mem_of_getElem? ho)
      have HM := Lib.hid (lines_more ho)
      have hlen : (linesL (l.take j)).length ≤ 100100 := by
        have h1 := lines_le (l := l.take j) (fun x hx => HS.out x (List.mem_of_mem_take hx))
        have h2 : (l.take j).length ≤ 100 := by rw [List.length_take]; omega
        have h3 : (l.take j).length * 1001 ≤ 100 * 1001 := Nat.mul_le_mul_right _ h2
        omega
      generalize linesL (l.take j) = out at *
      have HL := Lib.hid (fun W h => line_any o (by have := hso.1; omega) (by have := hso.2; omega) W h)
      unfold LinePost outArg at HL
      have HBA := Lib.hid (B_alloc BR.out (.cells #[.int .i64 o.k, .int .i64 o.id, .int .i64 o.fk, .string o.data, .string o.text] 27))
      have HXA := Lib.hid (HX.out.alloc (.cells #[.int .i64 o.k, .int .i64 o.id, .int .i64 o.fk, .string o.data, .string o.text] 27))
      cases hro : rightV o with
      | false =>
        rw [lineV_no hro] at HL
        have HN : Hid (lineN o = []) := Lib.hid (by unfold lineN; rw [hro]; rfl)
        clear ho hso hro
        go_wp2_with fail
        refine (HL.out _ (HV.out.below HBA.out)).mono ?_
        rintro e w1 ⟨rfl, b1⟩
        have B1 := Lib.hid (show B w w1 from B_trans HBA.out b1)
        have HX1 := Lib.hid (HXA.out.old b1)
        have hw1 : w.heap.size + 1 ≤ w1.heap.size := Nat.le_trans hwr (Nat.le_trans (by simp) b1.size)
        clear b1
        go_wp2_with fail
        go_roundw
        case rel => exact ⟨j + 1, by omega, by push_cast; rfl, by rw [HM.out, HN.out, List.append_nil]; exact HX1.out, B1.out, hw1⟩
        case measure => simp [intOf]; omega
      | true =>
        have hlz := line_size hro hso.1 hso.2
        rw [lineV_yes hro] at HL
        dsimp only at HL
        have HN : Hid ((bs (lineL o) ++ ⟨#[10]⟩).data.toList = lineN o) := Lib.hid (by unfold lineN; rw [if_pos hro, show (⟨#[10]⟩ : ByteArray) = bs [10] from rfl, bs_append, bs_list])
        generalize bs (lineL o) = lv at *
        have z1 : catOk lv ⟨#[10]⟩ := by unfold catOk; rw [show (⟨#[10]⟩ : ByteArray).size = 1 from rfl]; omega
        have z2 : (lv ++ ⟨#[10]⟩).size ≤ 1001 := by rw [ByteArray.size_append, show (⟨#[10]⟩ : ByteArray).size = 1 from rfl]; omega
        clear ho hso hro
        go_wp2_with fail
        refine (HL.out _ (HV.out.below HBA.out)).mono ?_
        rintro e w1 ⟨rfl, b1⟩
        have B1 := Lib.hid (show B w w1 from B_trans HBA.out b1)
        have HX1 := Lib.hid (HXA.out.old b1)
        have hw1 : w.heap.size + 1 ≤ w1.heap.size := Nat.le_trans hwr (Nat.le_trans (by simp) b1.size)
        have HWS := Lib.hid (writeString_any (lv ++ ⟨#[10]⟩) w1 HX1.out (by omega) hw1)
        clear b1 z2
        go_wp2_with fail
        refine HWS.out.mono ?_
        rintro e w2 ⟨rfl, hx2, ho2⟩
        have HX2 := Lib.hid hx2
        have B2 := Lib.hid (B_only1 B1.out ho2)
        have hw2 : w.heap.size + 1 ≤ w2.heap.size := Nat.le_trans hw1 ho2.size
        clear hx2 ho2
        go_wp2_with fail
        go_roundw
        case rel => exact ⟨j + 1, by omega, by push_cast; rfl, by rw [HM.out, ← HN.out]; exact HX2.out, B2.out, hw2⟩
        case measure => simp [intOf]; omega
    · obtain rfl : j = l.length := by omega
      have HT := Lib.hid (show l.take l.length = l from List.take_length)
      rw [HT.out] at HX
      have HSB := Lib.hid (Tryd.Builder_String_any w.heap.size w.heap.size (linesL l) wr (HX.out.is (by omega) (Nat.le_refl _)) (by omega))
      go_wp2_with fail
      refine HSB.out.mono ?_
      rintro e w5 ⟨rfl, b5⟩
      have B5 := Lib.hid (BR.out.trans b5)
      clear b5
      go_wp2_with fail
      go_ret
      exact ⟨rfl, B5.out⟩
end Go.Proofs.YthalpaggcdpcbaaDoor.Tr
