/- diff.Check: what it returns, at lists of few short texts; nothing that was there has changed. -/
import Derived.Test.YtnnnlbbgmdoehaaDoorDf
namespace Go.Proofs.YtnnnlbbgmdoehaaDoor.Df
open Go.RowKit Go.Proofs.YtnnnlbbgmdoehaaDoorW.PrintWords Go.Proofs.YtnnnlbbgmdoehaaDoorW.PrintLast Go.Proofs.YtnnnlbbgmdoehaaDoor
open Go.Maps (Keyed)

def badB (s : ByteArray) : Bool := !nameB s
theorem bad_any (s : ByteArray) (hs : s.size ≤ 1000) (w : World) :
    Calls Tryd.prog 23 #[.string s] w fun e w' => e = .returned (.bool (badB s)) ∧ Below w.heap.size w w' := by
  have hc := name_any s hs
  unfold badB
  generalize nameB s = b at hc ⊢
  have HC := Lib.hid hc
  clear hc
  go_enter Tryd.func23, Tryd.ntmps23
  go_wp2_with (go_at_call 9; refine (HC.out _).mono ?_; rintro e w' ⟨rfl, hb⟩)
  go_ret
  exact ⟨rfl, hb⟩

def SomeIdx (q : Bool) (w : World) (e : Ending) (w' : World) : Prop := ∃ r : Int, decide (0 ≤ r) = q ∧ e = .returned (.int .i64 r) ∧ Below w.heap.size w w'

set_option maxHeartbeats 1000000 in
theorem idx_any (A : Option Addr) (c : Nat) (l : List ByteArray) (w : World) (hr : Kd.C Kd.string w A l.length l) (hs : smallB l = true) :
    Calls Tryd.prog 33 #[.slice A l.length c, .func (.func 23) #[] #[]] w (SomeIdx (l.any badB) w) := by
  have eg : ∀ args w, (callFunc 23 args).run Tryd.prog w = .ok (.enter 23 args) w := enters_of Tryd.func23 (by kernel_rfl) rfl
  have hlen := small_len hs
  have HR := Lib.hid hr
  have HS := Lib.hid hs
  clear hr hs
  obtain ⟨n, hn⟩ : ∃ n, l.length = n := ⟨_, rfl⟩
  rw [hn] at hlen ⊢
  have HN := Lib.hid hn
  clear hn
  go_enter Tryd.func33, Tryd.ntmps33
  go_wp2
  go_loopw [8] (fun i wr => ∃ k : Nat, k ≤ n ∧ i = .int .i64 k ∧ Hid ((l.take k).any badB = false) ∧ Hid (Below w.heap.size w wr)) (fun i _ => n - (intOf i).toNat)
  case atStart => exact ⟨0, Nat.zero_le _, rfl, Lib.hid (by simp), Lib.hid (Below.refl _ _)⟩
  case round =>
    obtain ⟨k, hk, rfl, HT, HB⟩ := hrel
    by_cases hlt : k < n
    · obtain ⟨b, off, rfl, hcells⟩ := C_cell (Kd.C_below HR.out HB.out) (by rw [HN.out]; exact hlt : k < l.length)
      have hck := hcells k (by rw [HN.out]; exact hlt)
      have hsz := small_at HS.out (by rw [HN.out]; exact hlt : k < l.length)
      have hsnoc : (l.take (k + 1)).any badB = badB (l.getD k ByteArray.empty) := by
        rw [List.take_succ_eq_append_getElem (by rw [HN.out]; exact hlt), List.any_append, HT.out, List.getD_eq_getElem?_getD, List.getElem?_eq_getElem (by rw [HN.out]; exact hlt)]
        simp
      have hall : badB (l.getD k ByteArray.empty) = true → l.any badB = true := by
        intro h
        rw [← List.take_append_drop (k + 1) l, List.any_append, hsnoc, h]; rfl
      generalize l.getD k ByteArray.empty = s at hck hsz hsnoc hall
      clear hcells
      have hcall := bad_any s hsz
      cases hbad : badB s with
      | false =>
        rw [hbad] at hcall hsnoc
        have HS2 := Lib.hid hsnoc
        have HC := Lib.hid hcall
        clear hcall hsnoc hall hbad
        go_wp2_with (go_at_fn 23; refine (HC.out _).mono ?_; rintro e w' ⟨rfl, hb⟩)
        go_roundw
        case rel => exact ⟨k + 1, by omega, by go_num, HS2, Lib.hid (HB.out.trans (hb.mono HB.out.size))⟩
        case measure => simp [intOf]; omega
      | true =>
        rw [hbad] at hcall
        have HA := Lib.hid (hall hbad)
        have HC := Lib.hid hcall
        clear hcall hsnoc hall hbad
        go_wp2_with (go_at_fn 23; refine (HC.out _).mono ?_; rintro e w' ⟨rfl, hb⟩)
        go_ret
        exact ⟨k, by rw [HA.out]; simp, rfl, HB.out.trans (hb.mono HB.out.size)⟩
    · obtain rfl : k = n := by omega
      have HA : Hid (l.any badB = false) := by
        have := HT.out
        rw [← HN.out, List.take_length] at this
        exact Lib.hid this
      go_wp2
      go_ret
      exact ⟨-1, by rw [HA.out]; rfl, rfl, HB.out⟩

theorem contains_any (A : Option Addr) (c : Nat) (l : List ByteArray) (w : World) (hr : Kd.C Kd.string w A l.length l) (hs : smallB l = true) :
    Calls Tryd.prog 22 #[.slice A l.length c, .func (.func 23) #[] #[]] w fun e w' => e = .returned (.bool (l.any badB)) ∧ Below w.heap.size w w' := by
  have hc := idx_any A c l w hr hs
  generalize l.any badB = q at hc ⊢
  generalize l.length = n at hc ⊢
  have HC := Lib.hid hc
  clear hc hr hs
  go_enter Tryd.func22, Tryd.ntmps22
  go_wp2_with (go_at_call 33; refine HC.out.mono ?_; rintro e w' ⟨r, rfl, rfl, hb⟩)
  go_ret
  exact ⟨rfl, hb⟩
end Go.Proofs.YtnnnlbbgmdoehaaDoor.Df
