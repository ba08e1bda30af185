/- The reference's words (hostlerref08: Words). -/
import Derived.Test.YtogomkkglcddmaaDoorCrD
namespace Go.Proofs.YtogomkkglcddmaaDoor.Cf
open Go.RowKit Go.Proofs.YtogomkkglcddmaaDoor Go.Proofs.YtogomkkglcddmaaDoor.Nm
attribute [local go_sem ↓ high] exec_cat
attribute [local go_sem] strOf_str
theorem piece_one (s : ByteArray) (k : Nat) (h : k < s.size) : s.extract k (k + 1) = bs [s[k]] := by
  have h' : k < s.data.toList.length := by simpa using h
  refine (of_bs _).symm.trans ?_
  congr 1
  rw [ByteArray.data_extract, Array.toList_extract, List.extract_eq_take_drop, show k + 1 - k = 1 by omega, List.drop_eq_getElem_cons h']
  rfl
theorem take_one (s : ByteArray) (k : Nat) (h : k < s.size) : s.data.toList.take (k + 1) = s.data.toList.take k ++ [s[k]] := by
  have h' : k < s.data.toList.length := by simpa using h
  rw [List.take_succ_eq_append_getElem h']
  rfl
theorem more_piece {s W : ByteArray} {L : List ByteArray} {k : Nat} (h : k < s.size) (hx : s[k] ≠ 32) (hp : Sp.Pieces 32 (s.data.toList.take k) ((L ++ [W]).map (·.data.toList))) :
    Sp.Pieces 32 (s.data.toList.take (k + 1)) ((L ++ [W ++ bs [s[k]]]).map (·.data.toList)) := by
  rw [List.map_append, List.map_cons, List.map_nil] at hp ⊢
  rw [take_one s k h, show (W ++ bs [s[k]]).data.toList = W.data.toList ++ [s[k]] by rw [ByteArray.data_append, Array.toList_append, bs_list]]
  exact Sp.pieces_more hx hp
theorem cut_piece {s W : ByteArray} {L : List ByteArray} {k : Nat} (h : k < s.size) (hx : s[k] = 32) (hp : Sp.Pieces 32 (s.data.toList.take k) ((L ++ [W]).map (·.data.toList))) :
    Sp.Pieces 32 (s.data.toList.take (k + 1)) (((L ++ [W]) ++ [ByteArray.empty]).map (·.data.toList)) := by
  rw [List.map_append, take_one s k h, hx]
  exact Sp.pieces_cut hp
theorem end_piece {s W : ByteArray} {L : List ByteArray} (hp : Sp.Pieces 32 (s.data.toList.take s.size) ((L ++ [W]).map (·.data.toList))) : L ++ [W] = cutV 32 s := by
  rw [List.take_of_length_le (by simp)] at hp
  exact cutV_one hp
set_option maxRecDepth 100000 in
set_option maxHeartbeats 2000000 in
theorem words_any (s : ByteArray) (hs : s.size ≤ 9999) (w : World) :
    Calls Tryd.prog 49 #[.string s] w fun e w' => ∃ A cc, e = .returned (.slice A (cutV 32 s).length cc) ∧ (cutV 32 s).length ≤ cc ∧ StrsAt w' A (cutV 32 s) ∧ (∀ ad, A = some ad → w.heap.size ≤ ad.block) ∧ Below w.heap.size w w' := by
  obtain ⟨i0, hi, hz0, hz1, hz2⟩ := info_parts str_info
  go_enter Tryd.func49, Tryd.ntmps49
  go_wp2_with fail
  go_loopw [3, 4, 5] (fun sl t i wr => ∃ (k : Nat) (A' : Option Addr) (c' : Nat) (L : List ByteArray) (W : ByteArray), k ≤ s.size ∧ sl = .slice A' L.length c' ∧ t = .string W ∧ i = .int .i64 k ∧ L.length ≤ k ∧ W.size ≤ k ∧ Sp.Pieces 32 (s.data.toList.take k) ((L ++ [W]).map (·.data.toList)) ∧ Sl wr 9 1 (.slice A' L.length c') L.length (encS L) ∧ (∀ g, Value.ownBlock (.slice A' L.length c') = some g → w.heap.size ≤ g) ∧ Below w.heap.size w wr) (fun _ _ i _ => s.size - (intOf i).toNat)
  case atStart => exact ⟨0, none, 0, [], ⟨#[]⟩, by omega, rfl, rfl, rfl, Nat.le_refl _, Nat.le_refl _, Sp.pieces_start 32, Sl.nil _ _ _, fun g hg => by simp [Value.ownBlock] at hg, Below.refl _ _⟩
  case round =>
    obtain ⟨k, A', c', L, W, hk, rfl, rfl, rfl, hL, hW, hp, hS, hO, hb⟩ := hrel
    have HS := Lib.hid hS
    have HO := Lib.hid hO
    have HP := Lib.hid hp
    clear hS hO hp
    by_cases hlt : k < s.size
    · have hk1 : (k : Int) < (s.size : Int) := by omega
      have hk0 : (0 : Int) ≤ (k : Int) := by omega
      have i1 : ∀ W, (Instr.index 9 (.string s) (.int .i64 (k : Int))).run Tryd.prog W = .ok (.int .u8 ((s[k]'hlt).toNat : Int)) W := fun W => by
        rw [run_index_string W 9 s .i64 k Tryd.underlying9, dif_pos ⟨by omega, by omega⟩]
        simp
      have HC := Lib.hid (cut_piece (W := W) (L := L) hlt)
      have HM := Lib.hid (more_piece (W := W) (L := L) hlt)
      have isl : ∀ W, (Instr.slice 9 (.string s) (some (.int .i64 (k : Int))) (some (.int .i64 ((k : Int) + 1))) none).run Tryd.prog W = .ok (.string (bs [s[k]'hlt])) W := fun W => by
        rw [run_slice_lh s (k : Int) ((k : Int) + 1) hk0 (by omega) (by omega) W, ← piece_one s k hlt]
        rfl
      generalize s[k]'hlt = x at *
      by_cases hx : x = 32
      · subst hx
        have HC2 := Lib.hid (HC.out rfl HP.out)
        clear HC HM isl HP
        go_wp2_with (at_builtin; refine wpList_append_sl _ rfl (.tmp 16) (.tmp 18) 71 rfl 9 i0 _ 1 16 Tryd.underlying71 hi hz0 hz1 hz2 rfl (by decide) (.slice A' L.length c') L.length (encS L) rfl ?hs ⟨_, 0, none⟩ 1 1 [.string W] rfl rfl ?hn ?h1 ?hm ?hb ?_)
        case hs => repeat (first | exact HS.out | refine Sl.alloc ?_ _)
        case hn => exact news1 (by simp)
        case h1 => simp [Value.oneCell']
        case hm => unfold maxLen; omega
        case hb => omega
        intro A2 c2 w2 hs2 ho2 hl2
        have HS2 := Lib.hid hs2
        have HO2 := Lib.hid (own_later hl2 HO.out (B_size (by (repeat (first | assumption | exact B_refl _ | refine B_drewN ?_ _ | refine B_drew ?_ | refine B_alloc ?_ _ | refine B_setCell ?_ (by first | (simp; done) | (simp; omega)) _ | refine B_trans ?_ (by assumption)))) : w.heap.size ≤ _))
        have HB2 := Lib.hid (B_only (by (repeat (first | assumption | exact B_refl _ | refine B_drewN ?_ _ | refine B_drew ?_ | refine B_alloc ?_ _ | refine B_setCell ?_ (by first | (simp; done) | (simp; omega)) _ | refine B_trans ?_ (by assumption)))) ho2 HO.out)
        clear hs2 ho2 hl2
        go_wp2_with fail
        go_roundw
        case rel => exact ⟨k + 1, A2, c2, L ++ [W], ByteArray.empty, by omega, by rw [List.length_append]; rfl, rfl, by push_cast; rfl, by rw [List.length_append]; exact Nat.succ_le_succ hL, Nat.zero_le _, HC2.out, by rw [List.length_append, encS_append]; exact HS2.out, by rw [List.length_append]; exact HO2.out, HB2.out⟩
        case measure => simp [intOf]; omega
      · have HM2 := Lib.hid (HM.out hx HP.out)
        have hx32 : ((x.toNat : Int) == 32) = false := by
          rw [beq_eq_false_iff_ne]
          intro e
          have e2 : x.toNat = 32 := by omega
          exact hx (UInt8.toNat_inj.1 e2)
        have hcat : catOk W (bs [x]) := by unfold catOk; rw [bs_size]; show W.size + 1 ≤ _; omega
        have hsz : (W ++ bs [x]).size ≤ k + 1 := by rw [ByteArray.size_append, bs_size]; show W.size + 1 ≤ _; omega
        have s1 : W.size ≤ 9223372036854775806 := by omega
        have s2 : (bs [x]).size = 1 := by rw [bs_size]; rfl
        clear HC HM HP
        go_wp2_with fail
        go_roundw
        case rel => exact ⟨k + 1, A', c', L, W ++ bs [x], by omega, rfl, rfl, by push_cast; rfl, by omega, hsz, HM2.out, HS.out, HO.out, hb⟩
        case measure => simp [intOf]; omega
    · obtain rfl : k = s.size := by omega
      have HE := Lib.hid (end_piece HP.out)
      clear HP
      go_wp2_with (at_builtin; refine wpList_append_sl _ rfl (.tmp 27) (.tmp 29) 71 rfl 9 i0 _ 1 16 Tryd.underlying71 hi hz0 hz1 hz2 rfl (by decide) (.slice A' L.length c') L.length (encS L) rfl ?hs ⟨_, 0, none⟩ 1 1 [.string W] rfl rfl ?hn ?h1 ?hm ?hb ?_)
      case hs => repeat (first | exact HS.out | refine Sl.alloc ?_ _)
      case hn => exact news1 (by simp)
      case h1 => simp [Value.oneCell']
      case hm => unfold maxLen; omega
      case hb => omega
      intro A2 c2 w2 hs2 ho2 hl2
      have HS2 := Lib.hid hs2
      have HO2 := Lib.hid (own_later hl2 HO.out (B_size (by (repeat (first | assumption | exact B_refl _ | refine B_drewN ?_ _ | refine B_drew ?_ | refine B_alloc ?_ _ | refine B_setCell ?_ (by first | (simp; done) | (simp; omega)) _ | refine B_trans ?_ (by assumption)))) : w.heap.size ≤ _))
      have HB2 := Lib.hid (B_only (by (repeat (first | assumption | exact B_refl _ | refine B_drewN ?_ _ | refine B_drew ?_ | refine B_alloc ?_ _ | refine B_setCell ?_ (by first | (simp; done) | (simp; omega)) _ | refine B_trans ?_ (by assumption)))) ho2 HO.out)
      clear hs2 ho2 hl2
      go_wp2_with fail
      go_ret
      have hcap : L.length + 1 ≤ c2 := by
        obtain ⟨A3, c3, e, h1, _⟩ := HS2.out.slice
        cases e
        exact h1
      have hlen : (cutV 32 s).length = L.length + 1 := by rw [← HE.out, List.length_append]; rfl
      rw [hlen]
      refine ⟨A2, c2, rfl, hcap, ?_, ?_, HB2.out⟩
      · rw [← HE.out]
        exact StrsAt.of_Sl (by rw [encS_append]; exact HS2.out) (by rw [List.length_append]; rfl)
      · intro ad h
        subst h
        exact HO2.out _ rfl
end Go.Proofs.YtogomkkglcddmaaDoor.Cf
