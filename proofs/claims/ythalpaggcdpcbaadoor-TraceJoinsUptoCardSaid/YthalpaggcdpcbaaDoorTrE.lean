/- trace.Escape and the reference's. -/
import Derived.Test.YthalpaggcdpcbaaDoorTrB
import Derived.Test.YthalpaggcdpcbaaDoorTrP
import Derived.Test.YthalpaggcdpcbaaDoorTCrA
import Derived.Laws.BitsLemmas
namespace Go.Proofs.YthalpaggcdpcbaaDoor.Tr
open Go.RowKit Go.Proofs.YthalpaggcdpcbaaDoor Go.Proofs.YthalpaggcdpcbaaDoor.Nm Go.Proofs.YthalpaggcdpcbaaDoor.Cf
theorem plain_any (c : UInt8) (w : World) : Calls Tryd.prog 34 #[.int .u8 (c.toNat : Int)] w fun e w' => e = .returned (.bool (plainB c)) ∧ w' = w := by
  have hp : plainB c = (decide (32 ≤ c.toNat) && decide (c.toNat ≤ 126) && !decide (c.toNat = 92)) := rfl
  rw [hp]
  generalize c.toNat = m
  clear hp
  by_cases h1 : 32 ≤ m
  · have i1 : (32 : Int) ≤ (m : Int) := by omega
    by_cases h2 : m ≤ 126
    · have i2 : (m : Int) ≤ 126 := by omega
      rw [decide_eq_true h1, decide_eq_true h2]
      go_enter Tryd.func34, Tryd.ntmps34
      go_wp2_with fail
      go_ret
      refine ⟨?_, rfl⟩
      by_cases h3 : m = 92
      · subst h3; rfl
      · have i3 : ((m : Int) != 92) = true := by rw [bne_iff_ne]; omega
        rw [decide_eq_false h3]
        simp [i3]
    · have i2 : ¬ (m : Int) ≤ 126 := by omega
      rw [decide_eq_true h1, decide_eq_false h2]
      go_enter Tryd.func34, Tryd.ntmps34
      go_wp2_with fail
      go_ret
      exact ⟨rfl, rfl⟩
  · have i1 : ¬ (32 : Int) ≤ (m : Int) := by omega
    rw [decide_eq_false h1]
    go_enter Tryd.func34, Tryd.ntmps34
    go_wp2_with fail
    go_ret
    exact ⟨rfl, rfl⟩
theorem B_only' {w w1 w2 : World} (h : Below w.heap.size w w1) (ho : OB (w.heap.size + 2) w.heap.size w1 w2) : Below w.heap.size w w2 :=
  ((Only.of_B (F := fun _ => False) h).trans_new ho fun i hi he => by omega).to_B fun _ _ h => h
def escV (s : ByteArray) : ByteArray := bs (escL s.data.toList)
theorem conv_any (s : ByteArray) (W : World) : ∃ cap w1, (convert 9 50 (.string s)).run Tryd.prog W = .ok (.slice (some ⟨W.heap.size, 0, none⟩) s.size cap) w1 ∧ B W w1 ∧ w1.heap.size = W.heap.size + 1 ∧
    ∀ (k : Nat) (h : k < s.size), w1.cell? ⟨W.heap.size, k, none⟩ = some (.int .u8 ((s[k]'h).toNat : Int)) := by
  refine ⟨_, _, run_bytes_of_string W _ _ TU s Tryd.underlying9 Tryd.underlying50 Tryd.underlying5, B_alloc (B_drew (B_refl W)) _, by simp, fun k h => ?_⟩
  have hrow : (bytesRow s (grownCap W s.size 0 TU))[k]? = some (.int .u8 ((s[k]'h).toNat : Int)) := by
    have hk : k < s.data.size := h
    unfold bytesRow
    rw [Array.getElem?_append_left (by simpa using hk), Array.getElem?_map, Array.getElem?_eq_getElem hk]
    rfl
  generalize bytesRow s (grownCap W s.size 0 TU) = R at *
  have : (W.drew.alloc (.cells R TU (R.size, R.size + 1))).heap[W.heap.size]? = some (.cells R TU (R.size, R.size + 1)) := heap_alloc_new W.drew _
  rw [cell_of_row _ _ k R TU _ this]
  exact hrow
def signsS : ByteArray := ⟨#[48, 49, 50, 51, 52, 53, 54, 55, 56, 57, 97, 98, 99, 100, 101, 102]⟩
theorem sign_get : ∀ i : Fin 16, (signsS.get! i.val) = hexD i.val := by decide +kernel
theorem sign_run (j : Nat) (hj : j < 16) (W : World) : (Instr.index 9 (.string signsS) (.int .u8 (j : Int))).run Tryd.prog W = .ok (.int .u8 ((hexD j).toNat : Int)) W := by
  have hs : signsS.size = 16 := rfl
  rw [run_index_string W 9 signsS .u8 j Tryd.underlying9, dif_pos ⟨by omega, by omega⟩]
  have := sign_get ⟨j, hj⟩
  simp only at this
  rw [← this]
  simp only [Int.toNat_natCast]
  congr 4
  exact (getElem!_pos signsS.data j (by show j < 16; omega)).symm
theorem write3 {B b : Nat} {bs : List UInt8} (x1 x2 : UInt8) (g : Nat) (W : World) (hg : Blk W g TU #[.int .u8 92, .int .u8 (x1.toNat : Int), .int .u8 (x2.toNat : Int)]) (h : BX W B b bs) (hlen : bs.length ≤ 6000000) (hgb : g ≠ b) (hBw : B ≤ W.heap.size) :
    Calls Tryd.prog 36 #[.pointer (some ⟨b, 0, none⟩), .slice (some ⟨g, 0, none⟩) 3 3] W fun e w' => e = .returned (.tuple #[.int .i64 3, .nilIface]) ∧ BX w' B b (bs ++ [92, x1, x2]) ∧ OB B b W w' := by
  refine (write_any [92, x1, x2] g 3 3 rfl hgb W h (by omega) hBw fun j u hj => ?_).mono fun e w' hh => hh
  rw [Nat.zero_add, hg.cell j]
  match j with
  | 0 => exact hj
  | 1 => exact hj
  | 2 => exact hj
  | j + 3 => rw [List.getElem?_eq_none (by rw [byteC_length]; simp)] at hj; cases hj
theorem write3d {B b : Nat} {bs : List UInt8} (x1 x2 : UInt8) (w2 : World) (h : BX w2 B b bs) (hlen : bs.length ≤ 6000000) (hBw : B ≤ w2.heap.size) :
    Calls Tryd.prog 36 #[.pointer (some ⟨b, 0, none⟩), .slice (some ⟨w2.heap.size, 0, none⟩) 3 3] (w2.alloc (.cells #[.int .u8 92, .int .u8 (x1.toNat : Int), .int .u8 (x2.toNat : Int)] 5)).drew
      fun e w' => e = .returned (.tuple #[.int .i64 3, .nilIface]) ∧ BX w' B b (bs ++ [92, x1, x2]) ∧ OB B b w2 w' := by
  have hlt := h.lt
  refine (write3 x1 x2 w2.heap.size _ ?_ (BX.drew (h.alloc _)) hlen (by omega) ?_).mono ?_
  · exact heap_alloc_new w2 _
  · show B ≤ (w2.alloc _).heap.size
    simp
    omega
  · rintro e w' ⟨h1, h2, h3⟩
    exact ⟨h1, h2, (Only.drew (Only.alloc (Only.refl _ w2) _)).trans h3⟩
set_option maxRecDepth 100000 in
set_option maxHeartbeats 2000000 in
theorem escape_any (s : ByteArray) (hs : s.size ≤ 2000000) (w : World) : Calls Tryd.prog 17 #[.string s] w fun e w' => e = .returned (.string (escV s)) ∧ Below w.heap.size w w' := by
  obtain ⟨cap, w1, hcv, hb1, hsz, hcl⟩ := conv_any s (w.alloc (.cells #[.pointer none, .slice none 0 0] TB))
  have HBX := Lib.hid ((BX.new w (w.heap.size + 2)).old hb1)
  have HB1 := Lib.hid ((B_alloc (B_refl w) (.cells #[.pointer none, .slice none 0 0] TB)).trans (hb1.mono (by simp)))
  have HCL := Lib.hid hcl
  simp at hsz
  have HSZ := Lib.hid hsz
  have h1s : w.heap.size + 2 ≤ w1.heap.size := by omega
  clear hcl hb1 hsz
  simp [TB] at hcv
  go_enter Tryd.func17, Tryd.ntmps17
  go_wp2_with fail
  go_loopw [9] (fun i wr => ∃ k : Nat, k ≤ s.size ∧ i = .int .i64 k ∧ BX wr (w.heap.size + 2) w.heap.size (escL (s.data.toList.take k)) ∧ OB (w.heap.size + 2) w.heap.size w1 wr) (fun i _ => s.size - (intOf i).toNat)
  case atStart => exact ⟨0, Nat.zero_le _, rfl, HBX.out, Only.refl _ _⟩
  case round =>
    obtain ⟨k, hk, rfl, hbx, hob⟩ := hrel
    have HX := Lib.hid hbx
    have HO := Lib.hid hob
    have hwr : w.heap.size + 2 ≤ wr.heap.size := Nat.le_trans h1s hob.size
    clear hbx hob
    by_cases hlt : k < s.size
    · have hk1 : (k : Int) < (s.size : Int) := by omega
      have hk0 : (0 : Int) ≤ (k : Int) := by omega
      have c0 : wr.cell? ⟨w.heap.size + 1, k, none⟩ = some (.int .u8 ((s[k]'hlt).toNat : Int)) := by
        have h0 := HCL.out k hlt
        simp at h0
        exact (HO.out.cell (a := ⟨w.heap.size + 1, k, none⟩) (by show w.heap.size + 1 < _; omega) (by show ¬ (w.heap.size + 1 = w.heap.size ∨ w.heap.size + 2 ≤ w.heap.size + 1); omega)).trans h0
      have hesc : escL (s.data.toList.take (k + 1)) = escL (s.data.toList.take k) ++ escB (s[k]'hlt) := by
        rw [show s.data.toList.take (k + 1) = s.data.toList.take k ++ [s[k]'hlt] from by
          have h' : k < s.data.toList.length := by simpa using hlt
          rw [List.take_succ_eq_append_getElem h']
          rfl, escL_append, escL_cons]
        simp [escL]
      have HESC := Lib.hid hesc
      have hlen : (escL (s.data.toList.take k)).length ≤ 6000000 := by
        have h1 := (escL_len (s.data.toList.take k)).2
        have h2 : (s.data.toList.take k).length ≤ s.size := by rw [List.length_take]; simp; omega
        omega
      generalize s[k]'hlt = c at *
      have HP := Lib.hid (fun W => plain_any c W)
      cases hpl : plainB c with
      | true =>
        rw [hpl] at HP
        have HW := Lib.hid (writeByte_any c wr HX.out (by omega) hwr)
        have HEB := Lib.hid (escB_plain hpl)
        clear hesc hpl
        go_wp2_with fail
        refine (HP.out _).mono ?_
        rintro e w2 ⟨rfl, rfl⟩
        go_wp2_with fail
        refine HW.out.mono ?_
        rintro e w3 ⟨rfl, hx3, ho3⟩
        have HX3 := Lib.hid hx3
        have HO3 := Lib.hid (HO.out.trans ho3)
        clear hx3 ho3
        go_wp2_with fail
        go_roundw
        case rel => exact ⟨k + 1, by omega, by push_cast; rfl, by rw [HESC.out, HEB.out]; exact HX3.out, HO3.out⟩
        case measure => simp [intOf]; omega
      | false =>
        rw [hpl] at HP
        have HEB := Lib.hid (escB_hex hpl)
        clear hesc hpl
        go_wp2_with fail
        refine (HP.out _).mono ?_
        rintro e w2 ⟨rfl, rfl⟩
        have hc256 : c.toNat < 256 := c.toNat_lt
        have g1 := fun W => sign_run (c.toNat / 16) (by omega) W
        have g2 := fun W => sign_run (c.toNat % 16) (by omega) W
        have g3 : bits .and .u8 (c.toNat : Int) 15 = ((c.toNat % 16 : Nat) : Int) := (u8_and15 (x := (c.toNat : Int)) (by omega) (by omega)).trans (by omega)
        rw [show ((c.toNat / 16 : Nat) : Int) = (c.toNat : Int) / 16 by omega] at g1
        unfold signsS at g1 g2
        generalize hexD (c.toNat / 16) = x1 at *
        generalize hexD (c.toNat % 16) = x2 at *
        generalize ((c.toNat % 16 : Nat) : Int) = cm at *
        clear hc256
        go_wp2_with fail
        go_region_with (go_at_call 36; refine (write3d x1 x2 w2 HX.out hlen hwr).mono ?_; rintro e w3 ⟨rfl, hx3, ho3⟩; have HX3 := Lib.hid hx3; have HO3 := Lib.hid (HO.out.trans ho3); clear hx3 ho3)
        all_goals go_wp2_with fail
        all_goals go_roundw
        all_goals first | (exact ⟨k + 1, by omega, by push_cast; rfl, by rw [HESC.out, HEB.out]; exact HX3.out, HO3.out⟩) | (simp [intOf]; omega)
    · obtain rfl : k = s.size := by omega
      have hall : s.data.toList.take s.size = s.data.toList := List.take_of_length_le (by simp)
      rw [hall] at HX
      have HS := Lib.hid (Tryd.Builder_String_any w.heap.size w.heap.size (escL s.data.toList) wr (HX.out.is (by omega) (Nat.le_refl _)) (by omega))
      have HBW := Lib.hid (B_only' HB1.out HO.out)
      clear hall
      go_wp2_with fail
      refine HS.out.mono ?_
      rintro e w5 ⟨rfl, b5⟩
      have B5 := Lib.hid (HBW.out.trans b5)
      clear b5
      go_wp2_with fail
      go_ret
      exact ⟨rfl, B5.out⟩
end Go.Proofs.YthalpaggcdpcbaaDoor.Tr
