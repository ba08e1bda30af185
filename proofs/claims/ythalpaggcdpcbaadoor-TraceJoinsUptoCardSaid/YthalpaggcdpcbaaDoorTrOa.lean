/- slices.IndexFunc and slices.DeleteFunc at outputs. -/
import Derived.Test.YthalpaggcdpcbaaDoorTrJ
import Derived.Test.YthalpaggcdpcbaaDoorSlx
namespace Go.Proofs.YthalpaggcdpcbaaDoor.Tr
open Go.RowKit Go.Proofs.YthalpaggcdpcbaaDoor Go.Proofs.YthalpaggcdpcbaaDoor.Nm Go.Proofs.YthalpaggcdpcbaaDoor.Cf
/-- The first place of those that are so; -1: none. -/
def fIdx {α : Type} (p : α → Bool) (l : List α) : Int := match l.findIdx? p with
  | some i => (i : Int)
  | none => -1
theorem fIdx_none {α : Type} {p : α → Bool} {l : List α} (h : ∀ (m : Nat) (o : α), l[m]? = some o → p o = false) : fIdx p l = -1 := by
  unfold fIdx
  rw [List.findIdx?_eq_none_iff.2 fun x hx => by
    obtain ⟨m, hm⟩ := List.getElem?_of_mem hx
    exact h m x hm]
theorem fIdx_some {α : Type} {p : α → Bool} {l : List α} {j : Nat} {o : α} (hj : l[j]? = some o) (ho : p o = true) (h : ∀ (m : Nat) (o : α), m < j → l[m]? = some o → p o = false) : fIdx p l = (j : Int) := by
  unfold fIdx
  obtain ⟨hlt, he⟩ := List.getElem?_eq_some_iff.1 hj
  rw [(List.findIdx?_eq_some_iff_getElem).2 ⟨hlt, by rw [he]; exact ho, fun m hm => by
    have := h m _ hm (List.getElem?_eq_getElem (by omega))
    simp [this]⟩]
theorem fIdx_or {α : Type} (p : α → Bool) (l : List α) : (fIdx p l = -1 ∧ l.filter (fun x => !p x) = l) ∨ ∃ (j : Nat) (o : α), l[j]? = some o ∧ p o = true ∧ fIdx p l = (j : Int) ∧ (l.take (j + 1)).filter (fun x => !p x) = l.take j := by
  cases h : l.findIdx? p with
  | none =>
    left
    have hn := List.findIdx?_eq_none_iff.1 h
    refine ⟨by unfold fIdx; rw [h], List.filter_eq_self.2 fun x hx => by simp [hn x hx]⟩
  | some j =>
    right
    obtain ⟨hlt, h1, h2⟩ := List.findIdx?_eq_some_iff_getElem.1 h
    refine ⟨j, l[j], List.getElem?_eq_getElem hlt, h1, by unfold fIdx; rw [h], ?_⟩
    rw [List.take_succ_eq_append_getElem hlt, List.filter_append, List.filter_eq_self.2 fun x hx => by
      obtain ⟨m, hm, rfl⟩ := List.mem_take_iff_getElem.1 hx
      have := h2 m (by omega)
      simpa using this]
    simp [h1]
theorem encO_len (o : OutV) : (encO o).length = 5 := rfl
theorem encOs_len (L : List OutV) : (L.flatMap encO).length = L.length * 5 := by
  induction L with
  | nil => rfl
  | cons x r ih => rw [List.flatMap_cons, List.length_append, ih, encO_len, List.length_cons]; omega
theorem encOs_take : ∀ (L : List OutV) (k : Nat), (L.flatMap encO).take (k * 5) = (L.take k).flatMap encO
  | [], k => by simp
  | x :: r, 0 => by simp
  | x :: r, k + 1 => by
    rw [List.flatMap_cons, List.take_append, encO_len, List.take_of_length_le (by rw [encO_len]; omega), show (k + 1) * 5 - 5 = k * 5 by omega, encOs_take r k, List.take_succ_cons, List.flatMap_cons]
theorem encOs_drop : ∀ (L : List OutV) (k : Nat), (L.flatMap encO).drop (k * 5) = (L.drop k).flatMap encO
  | [], k => by simp
  | x :: r, 0 => by simp
  | x :: r, k + 1 => by
    rw [List.flatMap_cons, List.drop_append, encO_len, List.drop_of_length_le (by rw [encO_len]; omega), show (k + 1) * 5 - 5 = k * 5 by omega, encOs_drop r k, List.nil_append, List.drop_succ_cons]
theorem put_out {w : World} {g off n c i : Nat} {L : List OutV} (h : Sl w 27 5 (.slice (some ⟨g, off, none⟩) n c) n (L.flatMap encO)) (hn : L.length = n) (hi : i < n) (o : OutV) :
    Sl (w.setCells g (off + i * 5) (encO o)) 27 5 (.slice (some ⟨g, off, none⟩) n c) n ((L.set i o).flatMap encO) := by
  have := h.puts (i * 5) (encO o) (by rw [encO_len]; omega)
  rw [encO_len, encOs_take, show i * 5 + 5 = (i + 1) * 5 by omega, encOs_drop] at this
  rw [List.set_eq_take_append_cons_drop, if_pos (by omega), List.flatMap_append, List.flatMap_cons, ← List.append_assoc]
  exact this
set_option maxRecDepth 100000 in
set_option maxHeartbeats 4000000 in
theorem idxOut_any (w : World) (A : Option Addr) (c : Nat) (L : List OutV) (b1 b2 : Nat) (p : OutV → Bool) (hl : L.length ≤ 140737488355328) (hz : OutsAt w A L)
    (hp : ∀ W o, B w W → Calls Tryd.prog 40 #[outArg o, .pointer (some ⟨b1, 0, none⟩), .pointer (some ⟨b2, 0, none⟩)] W fun e w' => e = .returned (.bool (p o)) ∧ B W w') :
    Calls Tryd.prog 56 #[.slice A L.length c, .func (.func 40) #[] #[.pointer (some ⟨b1, 0, none⟩), .pointer (some ⟨b2, 0, none⟩)]] w fun e w' => e = .returned (.int .i64 (fIdx p L)) ∧ B w w' := by
  have HZ := Lib.hid hz
  have HP := Lib.hid hp
  have HB0 := Lib.hid (B_refl w)
  have HX1 := Lib.hid (fun (h : ∀ (m : Nat) (o : OutV), L[m]? = some o → p o = false) => fIdx_none h)
  have HX2 := Lib.hid (fun (j : Nat) (o : OutV) (h1 : L[j]? = some o) (h2 : p o = true) (h : ∀ (m : Nat) (o : OutV), m < j → L[m]? = some o → p o = false) => fIdx_some h1 h2 h)
  clear hz hp
  generalize fIdx p L = r at *
  go_enter Tryd.func56, Tryd.ntmps56
  go_wp2_with fail
  go_loopw [5, 8] (fun _ i wr => ∃ j : Nat, j ≤ L.length ∧ i = .int .i64 j ∧ Hid (∀ (m : Nat) (o : OutV), m < j → L[m]? = some o → p o = false) ∧ B w wr) (fun _ i _ => L.length - (intOf i).toNat)
  case atStart => exact ⟨0, Nat.zero_le _, rfl, Lib.hid fun m o hm => absurd hm (Nat.not_lt_zero _), by repeat (first | with_reducible exact HB0.out | refine B_drew ?_ | refine B_drewN ?_ _)⟩
  case round =>
    obtain ⟨j, hj, rfl, hno, hr⟩ := hrel
    have BR := Lib.hid hr
    clear hr
    by_cases hjm : j < L.length
    · obtain ⟨o, ho⟩ : ∃ o, L[j]? = some o := ⟨_, List.getElem?_eq_getElem hjm⟩
      have HO := Lib.hid ho
      obtain ⟨g, off, rfl, c0, c1, c2, c3, c4⟩ := (HZ.out.below BR.out) j o ho
      have HPO := Lib.hid (fun W h => HP.out W o h)
      unfold outArg at HPO
      clear ho
      obtain ⟨ok, oi, of, od, ot⟩ := o
      dsimp only at HPO c0 c1 c2 c3 c4
      go_wp2_with fail
      refine (HPO.out _ (by repeat (first | with_reducible exact BR.out | refine B_drew ?_ | refine B_drewN ?_ _))).mono ?_
      rintro e w1 ⟨rfl, b1'⟩
      have B1 := Lib.hid (show B w w1 from (B_trans (by first | exact BR.out | exact B_drew BR.out | exact B_drewN BR.out _) b1'))
      clear b1' c0 c1 c2 c3 c4
      cases hpo : p ⟨ok, oi, of, od, ot⟩ with
      | true =>
        have HR := Lib.hid (HX2.out j _ HO.out hpo hno.out)
        clear hpo
        go_wp2_with fail
        go_ret
        exact ⟨by rw [HR.out]; rfl, B1.out⟩
      | false =>
        have HPF := Lib.hid hpo
        clear hpo
        go_wp2_with fail
        go_roundw
        case rel => exact ⟨j + 1, by omega, by push_cast; rfl, Lib.hid fun m o' hm ho' => by
          by_cases hmj : m < j
          · exact hno.out m o' hmj ho'
          · obtain rfl : m = j := by omega
            rw [HO.out] at ho'
            injection ho' with ho'
            rw [← ho']
            exact HPF.out, B1.out⟩
        case measure => simp [intOf]; omega
    · obtain rfl : j = L.length := by omega
      have HR := Lib.hid (HX1.out fun m o ho => hno.out m o (List.getElem?_eq_some_iff.1 ho).1 ho)
      go_wp2_with fail
      go_ret
      exact ⟨by rw [HR.out]; rfl, by repeat (first | with_reducible exact BR.out | refine B_drew ?_ | refine B_drewN ?_ _)⟩
end Go.Proofs.YthalpaggcdpcbaaDoor.Tr
