/- diff.Check and slices.Clone at lists of few short texts; nothing that was there has changed. -/
import Derived.Test.YtnnnlbbgmdoehaaDoorDfA
namespace Go.Proofs.YtnnnlbbgmdoehaaDoor.Df
open Go.RowKit Go.Proofs.YtnnnlbbgmdoehaaDoorW.PrintWords Go.Proofs.YtnnnlbbgmdoehaaDoorW.PrintLast Go.Proofs.YtnnnlbbgmdoehaaDoor
open Go.Maps (Keyed)

def checkV (l : List ByteArray) : Int := if 16 < l.length then 13 else if l.any badB then 11 else if l.Nodup then 0 else 6
def checkF (l : List ByteArray) : Option Int := if smallB l then some (checkV l) else none

theorem own_below {H : Type} {P : Program} {k : TypeId} {R : Value → Option (DataW H × List MemPlace)} {b n : Nat} {D : DataW H} {w w1 : World} (h : w.ownsMap P k R b n D) (hb : Below w.heap.size w w1) : w1.ownsMap P k R b n D :=
  h.kept (row := none) ⟨hb.os, hb.tape, hb.output, hb.size, fun k hk _ => hb.block k hk⟩ (by simp)

set_option maxHeartbeats 1000000 in
theorem check_any (A : Option Addr) (c : Nat) (l : List ByteArray) (w : World) (hr : Kd.C Kd.string w A l.length l) (hs : smallB l = true) :
    Calls Tryd.prog 14 #[.slice A l.length c] w fun e w' => e = .returned (.int .i64 (checkV l)) ∧ Below w.heap.size w w' := by
  have hlen := small_len hs
  have hcont := fun W (hb : Below w.heap.size w W) => contains_any A c l W (Kd.C_below hr hb) hs
  have HR := Lib.hid hr
  have HS := Lib.hid hs
  have hd := setD_size l
  obtain ⟨V, hV⟩ : ∃ V, checkV l = V := ⟨_, rfl⟩
  rw [hV]
  have HV := Lib.hid hV
  clear hr hs hV
  obtain ⟨q, hq⟩ : ∃ q, l.any badB = q := ⟨_, rfl⟩
  rw [hq] at hcont
  have HQ := Lib.hid hq
  have HCT := Lib.hid hcont
  clear hcont hq
  obtain ⟨n, hn⟩ : ∃ n, l.length = n := ⟨_, rfl⟩
  rw [hn] at hlen hd HCT ⊢
  have HN := Lib.hid hn
  have HD := Lib.hid hd
  clear hn hd
  have hmk := @run_makeMap Tryd.prog
  go_enter Tryd.func14, Tryd.ntmps14
  go_wp2
  go_loopw [9] (fun i wr => ∃ k : Nat, k ≤ n ∧ i = .int .i64 k ∧ Hid (SetAt wr w.heap.size k (l.take k)) ∧ Hid (Below w.heap.size w wr)) (fun i _ => n - (intOf i).toNat)
  case atStart => exact ⟨0, Nat.zero_le _, rfl, Lib.hid (by exact World.ownsMap_made _ _ _ _), Lib.hid ((Below.refl _ _).alloc (Nat.le_refl _) _)⟩
  case round =>
    obtain ⟨k, hk, rfl, HM, HB⟩ := hrel
    by_cases hlt : k < n
    · obtain ⟨b, off, rfl, hcells⟩ := C_cell (Kd.C_below HR.out HB.out) (by rw [HN.out]; exact hlt : k < l.length)
      have hck := hcells k (by rw [HN.out]; exact hlt)
      have hsz := small_at HS.out (by rw [HN.out]; exact hlt : k < l.length)
      have hsnoc : l.take (k + 1) = l.take k ++ [l.getD k ByteArray.empty] := by
        rw [List.take_succ_eq_append_getElem (by rw [HN.out]; exact hlt), List.getD_eq_getElem?_getD, List.getElem?_eq_getElem (by rw [HN.out]; exact hlt)]
        rfl
      generalize l.getD k ByteArray.empty = s at hck hsz hsnoc
      have hown : wr.ownsMap (H := Nat) Tryd.prog 9 (plainElem Tryd.prog 4) w.heap.size k (setD (l.take k)) := HM.out
      have hkey : keyOf Tryd.prog 9 (.string s) = some (litS s) := Go.WideMaps.keyOf_string_mk Tryd.underlying9 (by unfold maxLen; omega : s.size ≤ maxLen)
      have HSN := Lib.hid hsnoc
      clear hcells hsnoc
      go_wp2_with (at_mapUpdate; refine wpList_mapUpdate_own _ rfl _ _ _ 40 rfl 9 4 law Tryd.underlying40 _ w.heap.size k _ rfl hown (by unfold maxLen; omega) _ _ _ rfl rfl hkey _ [] (plainElem_bool Tryd.underlying4 true) ?_; intro w1 hown1 hgrow1; have HO := Lib.hid hown1; have HG := Lib.hid hgrow1; clear hown1 hgrow1)
      go_roundw
      case rel => exact ⟨k + 1, by omega, by go_num, Lib.hid (by rw [HSN.out]; unfold SetAt; rw [← setD_snoc]; exact HO.out), Lib.hid (HB.out.grown HG.out HB.out.size (fun x hx => by cases hx; exact Nat.le_refl _))⟩
      case measure => simp [intOf]; omega
    · obtain rfl : k = n := by omega
      have hM := HM.out
      rw [show l.take k = l from by rw [← HN.out, List.take_length]] at hM
      have HM2 := Lib.hid hM
      clear hM HM
      by_cases h16 : 16 < k
      · have HVV : Hid (V = 13) := Lib.hid (by rw [← HV.out]; unfold checkV; rw [HN.out, if_pos h16])
        go_wp2
        go_ret
        exact ⟨by rw [HVV.out]; rfl, HB.out⟩
      · cases hq : q with
        | true =>
          have HVV : Hid (V = 11) := Lib.hid (by rw [← HV.out]; unfold checkV; rw [HN.out, if_neg h16, HQ.out, hq]; rfl)
          rw [hq] at HCT
          clear hq
          go_wp2_with (go_at_call 22; refine (HCT.out _ HB.out).mono ?_; rintro e w' ⟨rfl, hb⟩)
          go_ret
          exact ⟨by rw [HVV.out]; rfl, HB.out.trans (hb.mono HB.out.size)⟩
        | false =>
          rw [hq] at HCT
          have hVV : V = if l.Nodup then 0 else 6 := by rw [← HV.out]; unfold checkV; rw [HN.out, if_neg h16, HQ.out, hq]; rfl
          have hD := HD.out
          generalize hz : Maps.size (setD l) = z at hD
          have HZ := Lib.hid hz
          by_cases hnd : l.Nodup
          all_goals
            simp only [hnd, decide_true, decide_false, Bool.not_true, Bool.not_false, if_true, if_false] at hVV hD
            have HVV := Lib.hid hVV
            clear hq hVV hz hnd
            go_wp2_with fail
            refine (HCT.out _ HB.out).mono ?_
            rintro e w' ⟨rfl, hb⟩
            have hown2 : w'.ownsMap (H := Nat) Tryd.prog 9 (plainElem Tryd.prog 4) w.heap.size k (setD l) := own_below HM2.out hb
            go_wp2_with (at_len; refine wpList_len_own _ rfl _ 40 rfl 9 4 Tryd.underlying40 _ w.heap.size k _ rfl hown2 ?_; rw [HZ.out])
            go_ret
            exact ⟨by rw [HVV.out]; rfl, HB.out.trans (hb.mono HB.out.size)⟩

theorem check_calls (A0 : Option Addr) (c0 : Nat) (l0 : List ByteArray) (r : Int) (w : World) (hr0 : Kd.C Kd.string w A0 l0.length l0) (_ : l0.length ≤ c0) (h : checkF l0 = some r) :
    Calls Tryd.prog 14 #[.slice A0 l0.length c0] w fun e w' => e = .returned (.int .i64 r) ∧ Below w.heap.size w w' := by
  unfold checkF at h
  split at h
  · cases h; exact check_any A0 c0 l0 w hr0 ‹_›
  · cases h

/-! ### slices.Clone -/
def cloneF (l : List ByteArray) : Option (List ByteArray) := if smallB l then some l else none
/-- The clone's row: nil, or a new block that begins with the texts. -/
theorem clone_any (A : Option Addr) (c : Nat) (l : List ByteArray) (w : World) (hr : Kd.C Kd.string w A l.length l) (hs : smallB l = true) :
    Calls Tryd.prog 35 #[.slice A l.length c] w fun e w' => ∃ v', e = .returned v' ∧ w'.ownsRow w.heap.size 9 1 v' l.length (l.map Value.string) ∧ Below w.heap.size w w' := by
  have hlen := small_len hs
  by_cases h0 : l.length = 0
  · obtain rfl := List.length_eq_zero_iff.1 h0
    cases A with
    | none => exact (Tryd.slices_Clone_string_nil _ c w).mono fun e w' ⟨he, hw⟩ => ⟨_, he, World.ownsRow_nil _ _ _ _, hw ▸ Below.refl _ _⟩
    | some a => exact (Tryd.slices_Clone_string_zero a c w).mono fun e w' ⟨v', he, ho, _, hb⟩ => ⟨v', he, ho, hb⟩
  · obtain ⟨b, off, rfl, hc⟩ := C_cell hr (k := 0) (by omega)
    refine (Tryd.slices_Clone_string b off l.length c l w (Nat.le_refl _) (by omega) hc).mono fun e w' ⟨v', he, ho, _, hb⟩ => ⟨v', he, ?_, hb⟩
    rw [List.take_length] at ho
    exact ho
theorem clone_calls (A0 : Option Addr) (c0 : Nat) (l0 : List ByteArray) (r : List ByteArray) (w : World) (hr0 : Kd.C Kd.string w A0 l0.length l0) (_ : l0.length ≤ c0) (h : cloneF l0 = some r) :
    Calls Tryd.prog 35 #[.slice A0 l0.length c0] w fun e w' => ∃ v0_ : Value, e = .returned v0_ ∧ Kd.R Kd.string 9 w' w.heap.size (fun _ => True) v0_ r ∧ Below w.heap.size w w' := by
  unfold cloneF at h
  split at h
  · cases h
    exact (clone_any A0 c0 l0 w hr0 ‹_›).mono fun e w' ⟨v', he, ho, hb⟩ => ⟨v', he, Kd.R_of_own ho (fun _ _ => trivial), hb⟩
  · cases h
end Go.Proofs.YtnnnlbbgmdoehaaDoor.Df
