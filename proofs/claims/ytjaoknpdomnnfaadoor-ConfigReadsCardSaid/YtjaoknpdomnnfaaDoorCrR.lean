/- The reference's Read (hostlerref08: Read). -/
import Derived.Test.YtjaoknpdomnnfaaDoorCrN
import Derived.Test.YtjaoknpdomnnfaaDoorCfF
namespace Go.Proofs.YtjaoknpdomnnfaaDoor.Cf
open Go.RowKit Go.Proofs.YtjaoknpdomnnfaaDoor Go.Proofs.YtjaoknpdomnnfaaDoor.Nm
set_option maxRecDepth 100000 in
set_option maxHeartbeats 8000000 in
theorem refread_any (s : ByteArray) (hs : s.size ≤ 9999) (w : World) :
    Calls Tryd.prog 16 #[.string s] w (CfgPost (readV s) w) := by
  obtain ⟨i0, hi, hz0, hz1, hz2⟩ := info_parts int_info
  obtain ⟨r, hr⟩ : ∃ r, readV s = r := ⟨_, rfl⟩
  rw [hr]
  have HR := Lib.hid hr
  clear hr
  go_enter Tryd.func16, Tryd.ntmps16
  go_wp2_with fail
  rw [← zerosA]
  have HZA := Lib.hid ((Below.refl w.heap.size w).alloc (Nat.le_refl _) (.cells (cfgA zeros) 24))
  have HC2 := Lib.hid (show Blk (w.alloc (.cells (cfgA zeros) 24)) w.heap.size _ (cfgA zeros) from heap_at_new _ (by simp))
  have HSP := Lib.hid (words_any s hs (w.alloc (.cells (cfgA zeros) 24)))
  generalize hw2 : (w.alloc (.cells (cfgA zeros) 24)) = w2 at HZA HC2 HSP
  clear hw2
  have hmem : ∀ x ∈ cutV 32 s, x.size ≤ 9999 := fun x hx => Nat.le_trans (cutV_mem hx) hs
  have hr := HR.out
  unfold readV at hr
  generalize cutV 32 s = l at hr HSP hmem
  unfold readL at hr
  have HRV := Lib.hid hr.symm
  have HMEM := Lib.hid hmem
  clear hr HR hmem
  refine HSP.out.mono ?_
  rintro e w3 ⟨A, cc, rfl, hcc, hat, hA, b3⟩
  have HAT := Lib.hid hat
  have B3 := Lib.hid (HZA.out.trans (b3.mono HZA.out.size))
  have HC23 := Lib.hid (HC2.out.b b3)
  have hlt3 : w.heap.size < w3.heap.size := HC23.out.lt
  clear hat b3 hA HSP HC2 HZA
  by_cases h15 : l.length = 15
  · have t1 : ((l.length : Int) != 15) = false := by rw [h15]; rfl
    have HRW := Lib.hid (HRV.out.trans (if_pos h15))
    clear HRV
    go_wp2_with fail
    go_loopw [5, 6] (fun sl i wr => ∃ (k : Nat) (A' : Option Addr) (c' : Nat) (d : List Int), k ≤ 15 ∧ sl = .slice A' k c' ∧ i = .int .i64 k ∧ d.length = k ∧ (∀ (j : Nat) (x : ByteArray) (y : Int), l[j]? = some x → d[j]? = some y → numV x = some y) ∧ Sl wr 3 1 (.slice A' k c') k (encI d) ∧ (∀ g, Value.ownBlock (.slice A' k c') = some g → w3.heap.size ≤ g) ∧ Below w3.heap.size w3 wr) (fun _ i _ => 15 - (intOf i).toNat)
    case atStart => exact ⟨0, none, 0, [], by omega, rfl, rfl, rfl, fun j x y _ hy => by simp at hy, Sl.nil _ _ _, fun g hg => by simp [Value.ownBlock] at hg, Below.refl _ _⟩
    case round =>
      obtain ⟨k, A', c', d, hk, rfl, rfl, hd, hnum, hS, hO, hb⟩ := hrel
      have HS := Lib.hid hS
      have HO := Lib.hid hO
      have HB := Lib.hid hb
      have HNM := Lib.hid hnum
      clear hS hO hb hnum
      by_cases hlt : k < 15
      · have hk1 : (k : Int) < 15 := by omega
        have hk0 : (0 : Int) ≤ (k : Int) := by omega
        obtain ⟨x, hx⟩ : ∃ x, l[k]? = some x := ⟨_, List.getElem?_eq_getElem (by omega)⟩
        obtain ⟨g, o, rfl, hcx⟩ := (HAT.out.below HB.out) k x hx
        have hxs : x.size ≤ 9999 := HMEM.out x (List.mem_of_getElem? hx)
        have HN := Lib.hid (refnumber_any x hxs wr)
        go_wp2_with fail
        refine HN.out.mono ?_
        rintro e w5 ⟨n, ok, rfl, hok, hnv, b5⟩
        have HS5 := Lib.hid (HS.out.b b5)
        have HB5 := Lib.hid (HB.out.trans (b5.mono HB.out.size))
        have HNV := Lib.hid hnv
        have HOK := Lib.hid hok
        have hsw := HB5.out.size
        clear b5 hnv HN hcx hok HS
        cases ok with
        | true =>
          go_wp2_with (at_builtin; refine wpList_append_sl _ rfl (.tmp 33) (.tmp 35) 35 rfl 3 i0 _ 1 8 Tryd.underlying35 hi hz0 hz1 hz2 rfl (by decide) (.slice A' k c') k (encI d) rfl ?hs ⟨_, 0, none⟩ 1 1 [.int .i64 n] rfl rfl ?hn ?h1 ?hm ?hb ?_)
          case hs => repeat (first | exact HS5.out | refine Sl.alloc ?_ _)
          case hn => exact news1 (by simp)
          case h1 => simp [Value.oneCell']
          case hm => unfold maxLen; omega
          case hb => omega
          intro A2 c2 w6 hs2 ho2 hl2
          have HS2 := Lib.hid hs2
          have HO2 := Lib.hid (own_later hl2 HO.out (by simp; omega))
          have HB2 := Lib.hid (B_only (w := w3) (HB5.out.alloc HB5.out.size _) ho2 HO.out)
          clear hs2 ho2 hl2
          go_wp2_with fail
          go_roundw
          case rel =>
            refine ⟨k + 1, A2, c2, d ++ [n], by omega, rfl, by push_cast; rfl, by rw [List.length_append, hd]; rfl, fun j y z hy hz => ?_, by rw [encI_append]; exact HS2.out, HO2.out, HB2.out⟩
            by_cases hjk : j = k
            · subst hjk
              rw [hx] at hy
              cases hy
              rw [List.getElem?_append_right (by omega), hd, Nat.sub_self] at hz
              cases hz
              obtain ⟨v, hv⟩ := Option.isSome_iff_exists.1 HOK.out.symm
              rw [hv, HNV.out v hv]
            · have hjl : j < (d ++ [n]).length := (List.getElem?_eq_some_iff.1 hz).1
              rw [List.length_append, List.length_singleton] at hjl
              rw [List.getElem?_append_left (by omega)] at hz
              exact HNM.out j y z hy hz
          case measure => simp [intOf]; omega
        | false =>
          have hnone : numV x = none := by
            cases hq : numV x with
            | none => rfl
            | some v => have hok := HOK.out; rw [hq] at hok; cases hok
          have hrr : r = (zeros, 2) := by rw [HRW.out, numsV_none l k x hx hnone]
          subst hrr
          have HC25 := Lib.hid (HC23.out.b HB5.out)
          have HBB := Lib.hid (B3.out.trans (HB5.out.mono B3.out.size))
          go_wp2_with (refine store_blk (C := cfgA zeros) (by rfl) _ _ (by rfl) (by rfl) (by rfl) HC25.out (by rfl) (by kernel_rfl) (cfgA_one _) ?_; intro w6 hb6 ho6)
          exact bodyPost_ret (results_two Tryd.results16 rfl rfl (loadVar_blk hb6 _ Tryd.underlying24 rfl (by kernel_rfl))) rfl ⟨rfl, only_below HBB.out ho6 (Nat.le_refl _)⟩
      · obtain rfl : k = 15 := by omega
        have hsd : (Tryd.prog.info? 24).map (·.size) = some (cfgA d).size := cfg_sz hd
        have HZD := Lib.hid (show (15 : Nat) = (cfgA d).size by rw [cfgA_size, hd])
        have hns : numsV l = some d := numsV_some l d (by omega) (fun j x y hx hy => HNM.out j x y hx hy)
        have hrr : r = if (checkV d).2 = 0 then (d, 0) else (zeros, (checkV d).2) := by rw [HRW.out, hns]
        obtain ⟨g', o', rfl, hg', hcl⟩ := HS.out.cells (by omega)
        have HCL := Lib.hid (of_any d hd g' o' c' wr (fun j x hj => hcl j (.int .i64 x) (by simp [encI, hj])))
        have HCK := Lib.hid (refcheck_any d hd)
        generalize checkV d = ck at HCK hrr
        have HRR := Lib.hid hrr
        have HC2r := Lib.hid (HC23.out.b HB.out)
        have HBr := Lib.hid (B3.out.trans (HB.out.mono B3.out.size))
        clear hrr hns HNM hcl HS HO HB HAT B3 HC23 HRW
        go_wp2_with fail
        refine HCL.out.mono ?_
        rintro e w6 ⟨rfl, b6⟩
        have HC26 := Lib.hid (HC2r.out.b b6)
        have HB6 := Lib.hid (HBr.out.trans (b6.mono HBr.out.size))
        have hlt6 : w.heap.size < w6.heap.size := HC26.out.lt
        clear b6 HCL HC2r HBr
        go_wp2_with (first | (refine store_blk (C := cfgA d) (by rfl) _ _ (by rfl) (by rfl) (by rfl) (heap_at_new _ (by simp)) HZD.out hsd (cfgA_one _) ?_; intro w7 hb7 ho7; have H7 := Lib.hid hb7; have R7 := Lib.hid (Blk.only (HC26.out.alloc _) ho7 (by show ¬ w.heap.size = w6.heap.size; omega)); have B7 := Lib.hid (only_below (HB6.out.alloc HB6.out.size _) ho7 HB6.out.size); clear hb7 ho7) | (refine load_blk (by rfl) _ (by rfl) (by rfl) H7.out _ Tryd.underlying24 rfl hsd ?_))
        refine (HCK.out w7).mono ?_
        rintro e w8 ⟨rfl, b8⟩
        have H8 := Lib.hid (H7.out.b b8)
        have R8 := Lib.hid (R7.out.b b8)
        have HB8 := Lib.hid (B7.out.trans (b8.mono B7.out.size))
        clear b8 HCK H7 R7 B7
        by_cases h0 : ck.2 = 0
        · have hrr := HRR.out
          rw [if_pos h0] at hrr
          clear HRR
          subst hrr
          have t2 : (ck.2 != 0) = false := by rw [h0]; rfl
          go_wp2_with (first | (refine load_blk (by rfl) _ (by rfl) (by rfl) H8.out _ Tryd.underlying24 rfl hsd ?_) | (refine store_blk (C := cfgA d) (by rfl) _ _ (by rfl) (by rfl) (by rfl) R8.out HZD.out hsd (cfgA_one _) ?_; intro w9 hb9 ho9))
          exact bodyPost_ret (results_two Tryd.results16 rfl rfl (loadVar_blk hb9 _ Tryd.underlying24 rfl hsd)) rfl ⟨rfl, only_below HB8.out ho9 (Nat.le_refl _)⟩
        · have hrr := HRR.out
          rw [if_neg h0] at hrr
          clear HRR
          subst hrr
          have t2 : (ck.2 != 0) = true := bne_iff_ne.2 h0
          go_wp2_with (refine store_blk (C := cfgA zeros) (by rfl) _ _ (by rfl) (by rfl) (by rfl) R8.out (by rfl) (by kernel_rfl) (cfgA_one _) ?_; intro w9 hb9 ho9)
          exact bodyPost_ret (results_two Tryd.results16 rfl rfl (loadVar_blk hb9 _ Tryd.underlying24 rfl (by kernel_rfl))) rfl ⟨rfl, only_below HB8.out ho9 (Nat.le_refl _)⟩
  · have t1 : ((l.length : Int) != 15) = true := bne_iff_ne.2 (by omega)
    have hrr : r = (zeros, 2) := by rw [HRV.out, if_neg h15]
    subst hrr
    go_wp2_with (refine store_blk (C := cfgA zeros) (by rfl) _ _ (by rfl) (by rfl) (by rfl) HC23.out (by rfl) (by kernel_rfl) (cfgA_one _) ?_; intro w6 hb6 ho6)
    exact bodyPost_ret (results_two Tryd.results16 rfl rfl (loadVar_blk hb6 _ Tryd.underlying24 rfl (by kernel_rfl))) rfl ⟨rfl, only_below B3.out ho6 (Nat.le_refl _)⟩
end Go.Proofs.YtjaoknpdomnnfaaDoor.Cf
