/- Parse's lower functions: number, kind; a text cut at its first blank. -/
import Derived.Test.YthalpaggcdpcbaaDoorTrW
namespace Go.Proofs.YthalpaggcdpcbaaDoor.Tr
open Go.RowKit Go.Proofs.YthalpaggcdpcbaaDoor Go.Proofs.YthalpaggcdpcbaaDoor.Nm Go.Proofs.YthalpaggcdpcbaaDoor.Cf
theorem cut_is (l : List UInt8) : (Lib.cut l [32]).1 = (cut1 l).1 ∧ (Lib.cut l [32]).2.1 = (cut1 l).2 := by
  unfold Lib.cut
  rw [Lib.index_one]
  by_cases h : Lib.indexByte l 32 = -1
  · rw [h, if_neg (by omega), cut_none (fun hm => by
      obtain ⟨k, hk⟩ := List.getElem?_of_mem hm
      exact Lib.indexByte_none h k hk)]
    exact ⟨rfl, rfl⟩
  · have hge := Lib.indexByte_ge l 32
    obtain ⟨i, hi⟩ := Int.eq_ofNat_of_zero_le (show 0 ≤ Lib.indexByte l 32 by omega)
    obtain ⟨h1, h2⟩ := Lib.indexByte_some hi
    rw [hi, if_pos (by omega)]
    have hl : l = l.take i ++ 32 :: l.drop (i + 1) := by
      obtain ⟨hlt, he⟩ := List.getElem?_eq_some_iff.1 h1
      rw [← he, ← List.drop_eq_getElem_cons hlt, List.take_append_drop]
    have hn : (32 : UInt8) ∉ l.take i := fun hm => by
      obtain ⟨k, hk⟩ := List.getElem?_of_mem hm
      rw [List.getElem?_take] at hk
      split at hk
      · rename_i hlt; exact h2 k hlt hk
      · cases hk
    have hc := cut_blank (a := l.take i) (l.drop (i + 1)) hn
    rw [← hl] at hc
    rw [hc]
    exact ⟨by simp, by simp⟩
def cutA (s : ByteArray) : ByteArray := bs (cut1 s.data.toList).1
def cutB (s : ByteArray) : ByteArray := bs (cut1 s.data.toList).2
theorem cut_sizes (s : ByteArray) : (cutA s).size ≤ s.size ∧ (cutB s).size ≤ s.size := by
  unfold cutA cutB cut1
  rw [bs_size, bs_size]
  have h1 := (List.takeWhile_sublist (l := s.data.toList) (· != 32)).length_le
  have h2 := (List.dropWhile_sublist (l := s.data.toList) (· != 32)).length_le
  have h3 : s.data.toList.length = s.size := by simp
  simp only [List.length_drop]
  omega
theorem cut_any (s : ByteArray) (hs : s.size ≤ 99999) (w : World) (hv : Vars w) : Calls Tryd.prog 41 #[.string s, .string ⟨#[32]⟩] w fun e w' => ∃ b, e = .returned (.tuple #[.string (cutA s), .string (cutB s), .bool b]) ∧ Below w.heap.size w w' := by
  obtain ⟨m, hm⟩ := hv.most
  refine (Tryd.strings_Cut s ⟨#[32]⟩ m w (by omega) hm).mono ?_
  rintro e w' ⟨rfl, n, rfl⟩
  have := cut_is s.data.toList
  refine ⟨(Lib.cut s.data.toList [32]).2.2, ?_, below_drewN' (Below.refl _ _) n⟩
  unfold cutA cutB bs
  rw [← this.1, ← this.2]
theorem dec_len : ∀ (k u : Nat), u < 10 ^ (k + 1) → (Lib.decDigits u).length ≤ k + 1
  | 0, u, h => by rw [Lib.decDigits_length, Lib.nDigits_small (by omega)]; omega
  | k + 1, u, h => by
    by_cases h1 : u < 10
    · rw [Lib.decDigits_length, Lib.nDigits_small h1]; omega
    · have := dec_len k (u / 10) (by have : 10 ^ (k + 1 + 1) = 10 ^ (k + 1) * 10 := Nat.pow_succ ..; omega)
      rw [Lib.decDigits_length] at this ⊢
      rw [Lib.nDigits_big h1]
      omega
theorem itoa_nine {v : Int} (h0 : 0 < v) (h9 : v ≤ 999999999) : (Lib.itoa v).length ≤ 9 ∧ Lib.atoiAll (Lib.itoa v) = .ok v := by
  have hd := dec_len 8 v.natAbs (by omega)
  refine ⟨?_, atoi_itoa v (by rw [tail_itoa]; exact hd)⟩
  unfold Lib.itoa
  rw [if_neg (by omega), show v.toNat = v.natAbs by omega]
  exact hd
/-- What number may read. -/
def NumIs (s : ByteArray) (n : Int) : Prop := ∀ v : Int, 0 < v → v ≤ 999999999 → s.data.toList = Lib.itoa v → n = v
set_option maxRecDepth 100000 in
theorem number_any (s : ByteArray) (hs : s.size ≤ 99999) (w : World) (hv : Vars w) :
    Calls Tryd.prog 43 #[.string s] w fun e w' => ∃ n, e = .returned (.int .i64 n) ∧ NumIs s n ∧ Below w.heap.size w w' := by
  have HA := Lib.hid (atoi_any s hs w hv)
  have hsz : s.data.toList.length = s.size := by simp
  clear hv
  go_enter Tryd.func43, Tryd.ntmps43
  go_wp2_with fail
  refine HA.out.mono ?_
  rintro e w1 ⟨he, b1⟩
  have B1 := Lib.hid b1
  clear b1 HA
  rcases he with ⟨v, hat, rfl⟩ | ⟨hat, n, N, rfl⟩
  · by_cases h9 : s.size ≤ 9
    · have HN := Lib.hid (show NumIs s v from fun u h0 hu he => by
        have := (itoa_nine h0 hu).2
        rw [← he, hat] at this
        injection this)
      have t1 : decide ((9 : Int) < s.size) = false := decide_eq_false (by omega)
      clear hat
      go_wp2_with fail
      go_ret
      exact ⟨_, rfl, HN.out, B1.out⟩
    · have HN := Lib.hid (show NumIs s 0 from fun u h0 hu he => by
        have := (itoa_nine h0 hu).1
        rw [← he] at this
        omega)
      have t1 : decide ((9 : Int) < s.size) = true := decide_eq_true (by omega)
      clear hat
      go_wp2_with fail
      go_ret
      exact ⟨_, rfl, HN.out, B1.out⟩
  · have HN := Lib.hid (show NumIs s 0 from fun u h0 hu he => by
      have := (itoa_nine h0 hu).2
      rw [← he] at this
      exact absurd this (hat u))
    clear hat
    go_wp2_with fail
    go_ret
    exact ⟨_, rfl, HN.out, B1.out⟩
theorem kindT_no {l : List UInt8} (h : ∀ m : Int, 1 ≤ m → m ≤ 8 → (fnameV m).data.toList ≠ l) : kindT l = 0 := by
  unfold kindT
  rw [if_neg (h 1 (by omega) (by omega)), if_neg (h 2 (by omega) (by omega)), if_neg (h 3 (by omega) (by omega)), if_neg (h 4 (by omega) (by omega)), if_neg (h 5 (by omega) (by omega)), if_neg (h 6 (by omega) (by omega)), if_neg (h 7 (by omega) (by omega)), if_neg (h 8 (by omega) (by omega))]
set_option maxRecDepth 100000 in
theorem tkind_any (s : ByteArray) (w : World) :
    Calls Tryd.prog 44 #[.string s] w fun e w' => e = .returned (.int .i64 (kindT s.data.toList)) ∧ Below w.heap.size w w' := by
  obtain ⟨kt, hkt⟩ : ∃ kt, kindT s.data.toList = kt := ⟨_, rfl⟩
  rw [hkt]
  have HK := Lib.hid hkt
  have HBR := Lib.hid (B_refl w)
  clear hkt
  go_enter Tryd.func44, Tryd.ntmps44
  go_wp2_with fail
  go_loopw [3] (fun i wr => ∃ j : Nat, 1 ≤ j ∧ j ≤ 9 ∧ i = .int .i64 j ∧ (∀ m : Int, 1 ≤ m → m < j → (fnameV m).data.toList ≠ s.data.toList) ∧ B w wr) (fun i _ => 9 - (intOf i).toNat)
  case atStart => exact ⟨1, by omega, by omega, rfl, fun m h1 h2 => absurd h2 (by omega), by first | exact HBR.out | exact B_drew HBR.out | exact B_drewN HBR.out _⟩
  case round =>
    obtain ⟨j, h1, h9, rfl, hno, hr⟩ := hrel
    have HNO := Lib.hid hno
    have BR := Lib.hid hr
    clear hno hr
    by_cases hj : j ≤ 8
    · have t0 : decide ((j : Int) ≤ 8) = true := decide_eq_true (by omega)
      go_wp2_with fail
      refine (fname_any j _).mono ?_
      rintro e w1 ⟨rfl, b1⟩
      have B1 := Lib.hid (show B w w1 from (B_trans (by first | exact BR.out | exact B_drew BR.out | exact B_drewN BR.out _) b1))
      clear b1
      by_cases he : (fnameV j).data.toList = s.data.toList
      · have t1 : ((fnameV j).toList == s.toList) = true := by rw [str_eq]; exact decide_eq_true he
        have HE : Hid (kt = (j : Int)) := Lib.hid (by rw [← HK.out, ← he]; exact (kind_at (by omega) (by omega)).2)
        clear he
        go_wp2_with fail
        go_ret
        exact ⟨by rw [HE.out]; rfl, B1.out⟩
      · have t1 : ((fnameV j).toList == s.toList) = false := by rw [str_eq]; exact decide_eq_false he
        have HE := Lib.hid he
        clear he
        go_wp2_with fail
        go_roundw
        case rel => exact ⟨j + 1, by omega, by omega, by go_num, fun m h1 h2 => by
          by_cases hm : m < j
          · exact HNO.out m h1 hm
          · rw [show m = j by omega]; exact HE.out, by first | exact B1.out | exact B_drew B1.out | exact B_drewN B1.out _⟩
        case measure => simp [intOf]; omega
    · have t0 : decide ((j : Int) ≤ 8) = false := decide_eq_false (by omega)
      have HE : Hid (kt = 0) := Lib.hid (by rw [← HK.out]; exact kindT_no (fun m h1 h2 => HNO.out m h1 (by omega)))
      go_wp2_with fail
      go_ret
      exact ⟨by rw [HE.out]; rfl, by first | exact BR.out | exact B_drew BR.out | exact B_drewN BR.out _⟩
theorem word_index {W : World} {g : Nat} (h : Blk W g 9 (encS wordsT).toArray) (cc : Nat) (x : ByteArray) : Calls Tryd.prog 42 #[.slice (some ⟨g, 0, none⟩) 7 cc, .string x] W fun e w' => e = .returned (.int .i64 (Lib.idxOfS wordsT x)) ∧ w' = W := by
  refine (Tryd.slices_Index_string g 0 7 cc wordsT x W (by decide) (by omega) fun j hj => ?_).mono fun e w' h => ?_
  · rw [show 0 + j = j by omega, h.cell]
    have hj7 : j < 7 := hj
    rw [word_cell hj7]
    rfl
  · exact h
end Go.Proofs.YthalpaggcdpcbaaDoor.Tr
