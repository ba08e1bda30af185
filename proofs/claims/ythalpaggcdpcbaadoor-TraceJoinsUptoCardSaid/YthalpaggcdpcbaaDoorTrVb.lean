/- trace.Lines of outputs of many bytes. -/
import Derived.Test.YthalpaggcdpcbaaDoorTrV
namespace Go.Proofs.YthalpaggcdpcbaaDoor.Tr
open Go.RowKit Go.Proofs.YthalpaggcdpcbaaDoor Go.Proofs.YthalpaggcdpcbaaDoor.Nm Go.Proofs.YthalpaggcdpcbaaDoor.Cf
attribute [local go_sem ↓ high] exec_cat
attribute [local go_sem] strOf_str
attribute [local go_sem ↓ high] exec_cat_k exec_cat_l
theorem line_mid {o : OutV} (h : rightV o = true) (hd : o.data.size ≤ 1100000) (ht : o.text.size ≤ 1100000) : (bs (lineL o)).size ≤ 3309999 := by
  have hw : ∀ i : Fin 7, (wordT (i.val : Int)).length ≤ 6 := by decide +kernel
  have hwk : ∀ k : Int, 0 ≤ k → k ≤ 6 → (wordT k).length ≤ 6 := fun k h0 h6 => by
    obtain ⟨n, rfl⟩ := Int.eq_ofNat_of_zero_le h0
    exact hw ⟨n, by omega⟩
  have e1 := (escL_len o.data.data.toList).2
  have e2 := (escL_len o.text.data.toList).2
  have f1 := fname_size o.fk
  have s1 : o.data.data.toList.length = o.data.size := by simp
  have s2 : o.text.data.toList.length = o.text.size := by simp
  have s3 : (fnameV o.fk).data.toList.length = (fnameV o.fk).size := by simp
  rw [bs_size]
  unfold lineL
  rcases right_cases h with ⟨hk, h1, h2, h3, h4⟩ | ⟨hk, h1, h2, h3, h4, h5⟩ | ⟨hk, h1, h2, h3, h4, h5⟩ | ⟨hk, h1, h3, h4, h5⟩
  · have w1 := hwk o.k (by omega) (by omega)
    have i1 := (itoa_nine h1 h2).1
    rw [if_neg (by omega), if_neg (by omega), if_neg (by omega)]
    split <;> simp only [List.length_append, List.length_cons] <;> omega
  · have w1 := hwk o.k (by omega) (by omega)
    have i1 := (itoa_nine h1 h2).1
    rw [if_neg (by omega), if_pos hk]
    simp only [List.length_append, List.length_cons]
    omega
  · have w1 := hwk o.k (by omega) (by omega)
    have i1 := (itoa_nine h1 h2).1
    rw [if_neg (by omega), if_neg (by omega), if_pos hk]
    simp only [List.length_append, List.length_cons]
    omega
  · have w1 := hwk o.k (by omega) (by omega)
    rw [if_pos hk]
    simp only [List.length_append, List.length_cons]
    omega
def Mid (o : OutV) : Prop := o.data.size ≤ 1100000 ∧ o.text.size ≤ 1100000
theorem lineN_mid {o : OutV} (h : Mid o) : (lineN o).length ≤ 3310000 := by
  unfold lineN
  split
  · rename_i hr
    have := line_mid hr h.1 h.2
    rw [bs_size] at this
    simp
    omega
  · simp
theorem lines_mid : ∀ {l : List OutV}, (∀ o ∈ l, Mid o) → (linesL l).length ≤ l.length * 3310000
  | [], _ => by simp [linesL]
  | o :: r, h => by
    have ih := lines_mid (l := r) (fun x hx => h x (by simp [hx]))
    have h1 := lineN_mid (h o (by simp))
    unfold linesL at ih ⊢
    simp only [List.flatMap_cons, List.length_append, List.length_cons]
    omega
set_option maxRecDepth 100000 in
set_option maxHeartbeats 4000000 in
theorem lines_big (A : Option Addr) (c : Nat) (l : List OutV) (hn : l.length ≤ 100) (hc : l.length ≤ c) (hs : ∀ o ∈ l, Mid o) (w : World) (h : OutsAt w A l) (hv : VarsC w) :
    Calls Tryd.prog 15 #[.slice A l.length c] w fun e w' => e = .returned (.string (bs (linesL l))) ∧ Below w.heap.size w w' := by
  have H := Lib.hid h
  have HS := Lib.hid hs
  have HV := Lib.hid hv
  have HB0 := Lib.hid (B_alloc (B_refl w) (.cells #[.pointer none, .slice none 0 0] TB))
  have HX0 := Lib.hid (BX.new w (w.heap.size + 1))
  clear h hs hv
  go_enter Tryd.func15, Tryd.ntmps15
  go_wp2_with fail
  go_loopw [10] (fun i wr => ∃ j : Nat, j ≤ l.length ∧ i = .int .i64 j ∧ BX wr (w.heap.size + 1) w.heap.size (linesL (l.take j)) ∧ B w wr ∧ w.heap.size + 1 ≤ wr.heap.size) (fun i _ => l.length - (intOf i).toNat)
  case atStart => exact ⟨0, Nat.zero_le _, rfl, HX0.out, HB0.out, by simp⟩
  case round =>
    obtain ⟨j, hj, rfl, hbx, hr, hwr⟩ := hrel
    have BR := Lib.hid hr
    have HX := Lib.hid hbx
    clear hr hbx
    by_cases hjm : j < l.length
    · obtain ⟨o, ho⟩ : ∃ o, l[j]? = some o := ⟨_, List.getElem?_eq_getElem hjm⟩
      obtain ⟨g, off, rfl, c0, c1, c2, c3, c4⟩ := (H.out.below BR.out) j o ho
      have hso := HS.out o (List.mem_of_getElem? ho)
      have HM := Lib.hid (lines_more ho)
      have hlen : (linesL (l.take j)).length ≤ 331000000 := by
        have h1 := lines_mid (l := l.take j) (fun x hx => HS.out x (List.mem_of_mem_take hx))
        have h2 : (l.take j).length ≤ 100 := by rw [List.length_take]; omega
        have h3 : (l.take j).length * 3310000 ≤ 100 * 3310000 := Nat.mul_le_mul_right _ h2
        omega
      generalize linesL (l.take j) = out at *
      have HL := Lib.hid (fun W h => line_any o (by have := hso.1; omega) (by have := hso.2; omega) W h)
      unfold LinePost outArg at HL
      have HBA := Lib.hid (B_alloc BR.out (.cells #[.int .i64 o.k, .int .i64 o.id, .int .i64 o.fk, .string o.data, .string o.text] 27))
      have HXA := Lib.hid (HX.out.alloc (.cells #[.int .i64 o.k, .int .i64 o.id, .int .i64 o.fk, .string o.data, .string o.text] 27))
      cases hro : rightV o with
      | false =>
        rw [lineV_no hro] at HL
        have HN : Hid (lineN o = []) := Lib.hid (by unfold lineN; rw [hro]; rfl)
        clear ho hso hro
        go_wp2_with fail
        refine (HL.out _ (HV.out.below HBA.out)).mono ?_
        rintro e w1 ⟨rfl, b1⟩
        have B1 := Lib.hid (show B w w1 from B_trans HBA.out b1)
        have HX1 := Lib.hid (HXA.out.old b1)
        have hw1 : w.heap.size + 1 ≤ w1.heap.size := Nat.le_trans hwr (Nat.le_trans (by simp) b1.size)
        clear b1
        go_wp2_with fail
        go_roundw
        case rel => exact ⟨j + 1, by omega, by push_cast; rfl, by rw [HM.out, HN.out, List.append_nil]; exact HX1.out, B1.out, hw1⟩
        case measure => simp [intOf]; omega
      | true =>
        have hlz := line_mid hro hso.1 hso.2
        rw [lineV_yes hro] at HL
        dsimp only at HL
        have HN : Hid ((bs (lineL o) ++ ⟨#[10]⟩).data.toList = lineN o) := Lib.hid (by unfold lineN; rw [if_pos hro, show (⟨#[10]⟩ : ByteArray) = bs [10] from rfl, bs_append, bs_list])
        generalize bs (lineL o) = lv at *
        have z1 : catOk lv ⟨#[10]⟩ := by unfold catOk; rw [show (⟨#[10]⟩ : ByteArray).size = 1 from rfl]; omega
        have z2 : (lv ++ ⟨#[10]⟩).size ≤ 3310000 := by rw [ByteArray.size_append, show (⟨#[10]⟩ : ByteArray).size = 1 from rfl]; omega
        clear ho hso hro
        go_wp2_with fail
        refine (HL.out _ (HV.out.below HBA.out)).mono ?_
        rintro e w1 ⟨rfl, b1⟩
        have B1 := Lib.hid (show B w w1 from B_trans HBA.out b1)
        have HX1 := Lib.hid (HXA.out.old b1)
        have hw1 : w.heap.size + 1 ≤ w1.heap.size := Nat.le_trans hwr (Nat.le_trans (by simp) b1.size)
        have HWS := Lib.hid (writeString_any (lv ++ ⟨#[10]⟩) w1 HX1.out (by omega) hw1)
        clear b1 z2
        go_wp2_with fail
        refine HWS.out.mono ?_
        rintro e w2 ⟨rfl, hx2, ho2⟩
        have HX2 := Lib.hid hx2
        have B2 := Lib.hid (B_only1 B1.out ho2)
        have hw2 : w.heap.size + 1 ≤ w2.heap.size := Nat.le_trans hw1 ho2.size
        clear hx2 ho2
        go_wp2_with fail
        go_roundw
        case rel => exact ⟨j + 1, by omega, by push_cast; rfl, by rw [HM.out, ← HN.out]; exact HX2.out, B2.out, hw2⟩
        case measure => simp [intOf]; omega
    · obtain rfl : j = l.length := by omega
      have HT := Lib.hid (show l.take l.length = l from List.take_length)
      rw [HT.out] at HX
      have HSB := Lib.hid (Tryd.Builder_String_any w.heap.size w.heap.size (linesL l) wr (HX.out.is (by omega) (Nat.le_refl _)) (by omega))
      go_wp2_with fail
      refine HSB.out.mono ?_
      rintro e w5 ⟨rfl, b5⟩
      have B5 := Lib.hid (BR.out.trans b5)
      clear b5
      go_wp2_with fail
      go_ret
      exact ⟨rfl, B5.out⟩
end Go.Proofs.YthalpaggcdpcbaaDoor.Tr
