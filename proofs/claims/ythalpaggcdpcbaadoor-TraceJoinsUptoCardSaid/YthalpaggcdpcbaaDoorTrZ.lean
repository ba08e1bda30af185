/- The reference's Lines. -/
import Derived.Test.YthalpaggcdpcbaaDoorTrY
namespace Go.Proofs.YthalpaggcdpcbaaDoor.Tr
open Go.RowKit Go.Proofs.YthalpaggcdpcbaaDoor Go.Proofs.YthalpaggcdpcbaaDoor.Nm Go.Proofs.YthalpaggcdpcbaaDoor.Cf
attribute [local go_sem ↓ high] exec_cat
attribute [local go_sem] strOf_str
attribute [local go_sem ↓ high] exec_cat_k exec_cat_l
/-- An output that is cut short. -/
def Short (o : OutV) : Prop := o.data.size ≤ 60 ∧ o.text.size ≤ 60
def lineN (o : OutV) : List UInt8 := if rightV o = true then lineL o ++ [10] else []
def linesL (l : List OutV) : List UInt8 := l.flatMap lineN
def encO (o : OutV) : List Value := [.int .i64 o.k, .int .i64 o.id, .int .i64 o.fk, .string o.data, .string o.text]
def OutsAt (w : World) (A : Option Addr) (l : List OutV) : Prop := ∀ (j : Nat) (o : OutV), l[j]? = some o → ∃ g off, A = some ⟨g, off, none⟩ ∧ w.cell? ⟨g, off + j * 5, none⟩ = some (.int .i64 o.k) ∧ w.cell? ⟨g, off + j * 5 + 1, none⟩ = some (.int .i64 o.id) ∧ w.cell? ⟨g, off + j * 5 + 2, none⟩ = some (.int .i64 o.fk) ∧ w.cell? ⟨g, off + j * 5 + 3, none⟩ = some (.string o.data) ∧ w.cell? ⟨g, off + j * 5 + 4, none⟩ = some (.string o.text)
theorem OutsAt.below {w w' : World} {A : Option Addr} {l : List OutV} (h : OutsAt w A l) (hb : Below w.heap.size w w') : OutsAt w' A l := fun j o hj => by
  obtain ⟨g, off, e, c0, c1, c2, c3, c4⟩ := h j o hj
  have f : ∀ (k : Nat) (v : Value), w.cell? ⟨g, k, none⟩ = some v → w'.cell? ⟨g, k, none⟩ = some v := fun k v hc => (hb.cell (p := ⟨g, k, none⟩) (World.block_lt_of_cell? w _ hc)).trans hc
  exact ⟨g, off, e, f _ _ c0, f _ _ c1, f _ _ c2, f _ _ c3, f _ _ c4⟩
theorem lines_more {l : List OutV} {j : Nat} {o : OutV} (h : l[j]? = some o) : linesL (l.take (j + 1)) = linesL (l.take j) ++ lineN o := by
  obtain ⟨hlt, he⟩ := List.getElem?_eq_some_iff.1 h
  unfold linesL
  rw [List.take_succ_eq_append_getElem hlt, List.flatMap_append, he]
  simp
theorem lineN_le {o : OutV} (h : Short o) : (lineN o).length ≤ 1001 := by
  unfold lineN
  split
  · rename_i hr
    have := line_size hr h.1 h.2
    rw [bs_size] at this
    simp
    omega
  · simp
theorem lines_le : ∀ {l : List OutV}, (∀ o ∈ l, Short o) → (linesL l).length ≤ l.length * 1001
  | [], _ => by simp [linesL]
  | o :: r, h => by
    have ih := lines_le (l := r) (fun x hx => h x (by simp [hx]))
    have h1 := lineN_le (h o (by simp))
    unfold linesL at ih ⊢
    simp only [List.flatMap_cons, List.length_append, List.length_cons]
    omega
set_option maxRecDepth 100000 in
set_option maxHeartbeats 4000000 in
theorem reflines_any (A : Option Addr) (c : Nat) (l : List OutV) (hn : l.length ≤ 100) (hc : l.length ≤ c) (hs : ∀ o ∈ l, Short o) (w : World) (h : OutsAt w A l) :
    Calls Tryd.prog 16 #[.slice A l.length c] w fun e w' => e = .returned (.string (bs (linesL l))) ∧ Below w.heap.size w w' := by
  have H := Lib.hid h
  have HS := Lib.hid hs
  clear h hs
  go_enter Tryd.func16, Tryd.ntmps16
  go_wp2_with fail
  go_loopw [3, 4] (fun ov i wr => ∃ j : Nat, j ≤ l.length ∧ ov = .string (bs (linesL (l.take j))) ∧ i = .int .i64 j ∧ B w wr) (fun _ i _ => l.length - (intOf i).toNat)
  case atStart => exact ⟨0, Nat.zero_le _, rfl, rfl, by repeat (first | with_reducible exact B_refl _ | refine B_drew ?_ | refine B_drewN ?_ _)⟩
  case round =>
    obtain ⟨j, hj, rfl, rfl, hr⟩ := hrel
    have BR := Lib.hid hr
    clear hr
    by_cases hjm : j < l.length
    · obtain ⟨o, ho⟩ : ∃ o, l[j]? = some o := ⟨_, List.getElem?_eq_getElem hjm⟩
      obtain ⟨g, off, rfl, c0, c1, c2, c3, c4⟩ := (H.out.below BR.out) j o ho
      have hso := HS.out o (List.mem_of_getElem? ho)
      have HM := Lib.hid (lines_more ho)
      have hlen : (bs (linesL (l.take j))).size ≤ 100100 := by
        rw [bs_size]
        have h1 := lines_le (l := l.take j) (fun x hx => HS.out x (List.mem_of_mem_take hx))
        have h2 : (l.take j).length ≤ 100 := by rw [List.length_take]; omega
        have h3 : (l.take j).length * 1001 ≤ 100 * 1001 := Nat.mul_le_mul_right _ h2
        omega
      have HAP := Lib.hid (fun x => bs_append (linesL (l.take j)) x)
      have HA0 := Lib.hid (show bs (linesL (l.take j)) ++ bs [] = bs (linesL (l.take j)) by rw [bs_append, List.append_nil])
      generalize bs (linesL (l.take j)) = out at *
      have HL := Lib.hid (fun W => refline_any o (by have := hso.1; omega) (by have := hso.2; omega) W)
      unfold LinePost outArg at HL
      cases hro : rightV o with
      | false =>
        rw [lineV_no hro] at HL
        have HN : Hid (lineN o = []) := Lib.hid (by unfold lineN; rw [hro]; rfl)
        clear ho hso hro
        go_wp2_with fail
        refine (HL.out _).mono ?_
        rintro e w1 ⟨rfl, b1⟩
        have B1 := Lib.hid (show B w w1 from B_trans (by repeat (first | with_reducible exact BR.out | refine B_drew ?_ | refine B_drewN ?_ _)) b1)
        clear b1
        go_wp2_with fail
        go_roundw
        case rel => exact ⟨j + 1, by omega, by rw [HM.out, HN.out, ← HAP.out]; exact congrArg Value.string HA0.out.symm, by push_cast; rfl, by repeat (first | with_reducible exact B1.out | refine B_drew ?_ | refine B_drewN ?_ _)⟩
        case measure => simp [intOf]; omega
      | true =>
        have hlz := line_size hro hso.1 hso.2
        rw [lineV_yes hro] at HL
        dsimp only at HL
        have HN : Hid (bs (lineN o) = bs (lineL o) ++ ⟨#[10]⟩) := Lib.hid (by unfold lineN; rw [if_pos hro]; exact (bs_append _ [10]).symm)
        generalize bs (lineL o) = lv at *
        have z1 : catOk lv ⟨#[10]⟩ := by unfold catOk; rw [show (⟨#[10]⟩ : ByteArray).size = 1 from rfl]; omega
        have z2 : catOk out (lv ++ ⟨#[10]⟩) := by unfold catOk; rw [ByteArray.size_append, show (⟨#[10]⟩ : ByteArray).size = 1 from rfl]; omega
        clear ho hso hro
        go_wp2_with fail
        refine (HL.out _).mono ?_
        rintro e w1 ⟨rfl, b1⟩
        have B1 := Lib.hid (show B w w1 from B_trans (by repeat (first | with_reducible exact BR.out | refine B_drew ?_ | refine B_drewN ?_ _)) b1)
        clear b1
        go_wp2_with fail
        go_roundw
        case rel => exact ⟨j + 1, by omega, by rw [HM.out, ← HAP.out, HN.out], by push_cast; rfl, by repeat (first | with_reducible exact B1.out | refine B_drew ?_ | refine B_drewN ?_ _)⟩
        case measure => simp [intOf]; omega
    · obtain rfl : j = l.length := by omega
      have HT := Lib.hid (show l.take l.length = l from List.take_length)
      rw [HT.out]
      go_wp2_with fail
      go_ret
      exact ⟨rfl, by repeat (first | with_reducible exact BR.out | refine B_drew ?_ | refine B_drewN ?_ _)⟩
end Go.Proofs.YthalpaggcdpcbaaDoor.Tr
