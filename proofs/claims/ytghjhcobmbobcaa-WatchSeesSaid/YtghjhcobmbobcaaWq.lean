/- (*Watch).Ended, (*Watch).Greeted. -/
import Derived.Test.YtghjhcobmbobcaaWm
namespace Go.Proofs.Ytghjhcobmbobcaa.Wt
open Go.RowKit Go.Proofs.Ytghjhcobmbobcaa.Mp Go.Proofs.Ytghjhcobmbobcaa Go.Maps
set_option maxRecDepth 100000 in
theorem greets_any (so : Bool × Bool → Bool) (hz : so (false, false) = false) (hso : SoOf 38 so) (base : Bs) (b n : Nat) (s : St) (mb cb : Nat) (w : World) (hX : WX base w b n s mb cb) (hn : n < 1000) :
    Calls Try.prog 36 #[.pointer (some ⟨b, 0, none⟩), .func (.func 38) #[] #[]] w (OfPost so s w) := by
  obtain ⟨D, hown, hat, _⟩ := hX.2.2.1
  have c2 := hX.c2
  have HSO := Lib.hid hso
  clear hso
  go_enter Try.func36, Try.ntmps36
  have hlt : cb < w.heap.size := hX.2.2.1.lt
  go_wp2_with (at_range; refine wpList_range_own _ rfl _ 49 rfl 3 54 (int_keyed uInt) Try.underlying49 _ cb n D rfl hown ?_; intro w0 hrg0 hg0 hs0)
  go_frame
  go_loopw [5] (fun sl wr => ∃ (left : Lit → Bool) (cnt : Nat) (l : List Int) (A : Option Addr) (c : Nat), wr.ranges Try.prog 3 pairR cb w.heap.size n D left cnt ∧ sl = .slice A l.length c ∧ l.length + cnt ≤ n ∧
      Sl wr 3 1 (.slice A l.length c) l.length (encI l) ∧ (∀ g, Value.ownBlock (.slice A l.length c) = some g → w.heap.size + 1 ≤ g) ∧ Below w.heap.size w wr ∧ l.Nodup ∧
      (∀ i, (Lit.int .i64 i).wf = true → (i ∈ l ↔ has D (.int .i64 i) = true ∧ left (.int .i64 i) = false ∧ so (s.cl i) = true)) ∧ (∀ i ∈ l, (Lit.int .i64 i).wf = true)) (fun _ wr => wr.rangeLeft cb w.heap.size)
  case atStart =>
    exact ⟨has D, Maps.size D, [], none, 0, hrg0, rfl, by have := ranges_cnt hrg0; simpa using this, Sl.nil _ _ _, fun g hg => by simp [Value.ownBlock] at hg, (Below.refl _ w).grown hg0 (Nat.le_refl _) (fun k hk => by cases hk), List.nodup_nil,
      fun i _ => ⟨fun h => (by cases h), fun h => by rw [h.1] at h; exact absurd h.2.1 (by simp)⟩, fun i h => (by cases h)⟩
  case round =>
    obtain ⟨left, cnt, l, A, c, hrg, rfl, hlen, hS, hO, hB, hnd, hmem, hwf⟩ := hrel
    go_wp2_with (at_next; refine next_pair _ rfl _ rfl 3 uInt cb w.heap.size n _ _ _ rfl hrg ?_ ?_; rotate_left; intro x v w1 cnt1 hwx hlx hatx hrg1 hlt1 hg1 hs1 hen; rotate_left)
    · intro hc0 hl0
      have hmem2 : ∀ i, (Lit.int .i64 i).wf = true → (i ∈ l ↔ so (s.cl i) = true) := fun i hi => by
        rw [hmem i hi]
        refine ⟨fun h => h.2.2, fun h => ⟨?_, hl0 _, h⟩⟩
        cases hh : has D (.int .i64 i) with
        | true => rfl
        | false =>
          have e := (atKey_of_not_has hh (pair.dat pair.zero)).symm.trans (hat i hi)
          have e2 : DataW.agg (H := Nat) [.lit (.bool false), .lit (.bool false)] = .agg [.lit (.bool (s.cl i).1), .lit (.bool (s.cl i).2)] := e
          simp only [DataW.agg.injEq, List.cons.injEq, DataW.lit.injEq, Lit.bool.injEq, and_true] at e2
          rw [show s.cl i = (false, false) from Prod.ext e2.1.symm e2.2.symm, hz] at h
          cases h
      have hlc : l.length ≤ c := by
        obtain ⟨_, _, e, h1, _⟩ := hS.slice
        injection e with _ _ e
        rw [e]; exact h1
      have HSO2 := Lib.hid (sort_sl wr w.heap.size c A l hS (by omega) (fun g hg => by have := hO g hg; omega))
      have HP : Hid (∀ w2, Below w.heap.size wr w2 → IntsAt w2 A (sortI l) → OfPost so s w (.returned (.slice A l.length c)) w2) := Lib.hid fun w2 h1 h2 =>
        ⟨A, c, l, by rw [sortI_len], by rw [sortI_len]; exact hlc, h2, by omega, hnd, hwf, hmem2, hB.trans h1⟩
      clear hmem2 hlc hmem hwf hnd hS hO hB hrg hat hX hown c2 hrg0 hg0 hs0
      go_wp2_with fail
      refine HSO2.out.mono ?_
      rintro e w2 ⟨rfl, h1, h2⟩
      have HA := Lib.hid (HP.out w2 h1 h2)
      clear h1 h2
      go_wp2_with fail
      go_ret
      exact HA.out
    · have hd : has D (.int .i64 x) = true := has_true_of_atKey hatx
      have hvx : s.cl x = v := by
        have e := (hatx (pair.dat pair.zero)).symm.trans (hat x hwx)
        have e2 : DataW.agg (H := Nat) [.lit (.bool v.1), .lit (.bool v.2)] = .agg [.lit (.bool (s.cl x).1), .lit (.bool (s.cl x).2)] := e
        simp only [DataW.agg.injEq, List.cons.injEq, DataW.lit.injEq, Lit.bool.injEq, and_true] at e2
        exact Prod.ext e2.1.symm e2.2.symm
      have hS1 : Sl w1 3 1 (.slice A l.length c) l.length (encI l) := hS.move fun g hg => hg1.block g (hS.lt hg) (by have := hO g hg; intro e; cases e; omega)
      have hB1 : Below w.heap.size w w1 := hB.grown hg1 hB.size (fun k hk => by cases hk; exact Nat.le_refl _)
      have hnx : x ∉ l := fun hx => by have := (hmem x hwx).1 hx; rw [hlx] at this; exact absurd this.2.1 (by simp)
      have HRG := Lib.hid hrg1
      have HS := Lib.hid hS1
      have HO := Lib.hid hO
      have HB := Lib.hid hB1
      have HM := Lib.hid hmem
      have HW := Lib.hid hwf
      have HN := Lib.hid hnd
      have HSV := Lib.hid (HSO.out v (w1.alloc (.cells #[.bool v.1, .bool v.2] 54)))
      have hr0 : w.heap.size < w1.heap.size := by
        obtain ⟨_, _, _, _, _, _, _, _, _, h5, _⟩ := hrg1
        exact (Array.getElem?_eq_some_iff.1 h5).1
      have hcnt := hrg.left_eq
      have hcl : cb < w1.heap.size := by omega
      clear hrg hrg1 hS1 hO hB1 hmem hwf hnd hS hB hat hatx hg1 hs1 hX hown c2 hrg0 hg0 hs0
      cases hso : so v with
      | false =>
        rw [hso] at HSV
        go_wp2_with fail
        refine HSV.out.mono ?_
        rintro e wz ⟨rfl, hbz⟩
        have hz2 : Below w1.heap.size w1 wz := ((Below.refl _ _).alloc (Nat.le_refl _) _).trans (hbz.mono (by rw [World.size_alloc]; omega))
        replace HRG := Lib.hid (ranges_move HRG.out (hz2.block cb hcl) (hz2.block _ hr0))
        replace HS := Lib.hid (HS.out.b hz2)
        replace HB := Lib.hid (HB.out.trans (hz2.mono HB.out.size))
        replace hr0 : w.heap.size < wz.heap.size := Nat.lt_of_lt_of_le hr0 hz2.size
        replace hcl : cb < wz.heap.size := Nat.lt_of_lt_of_le hcl hz2.size
        have hm1 : wz.rangeLeft cb w.heap.size < wr.rangeLeft cb w.heap.size := by rw [HRG.out.left_eq, hcnt]; exact hlt1
        clear hz2 hbz
        go_wp2_with fail
        go_roundw
        case rel => exact ⟨_, cnt1, l, A, c, HRG.out, rfl, by omega, HS.out, HO.out, HB.out, HN.out, mem_stepB (fun i => so (s.cl i)) HM.out hd hlx l (.inr ⟨by show so (s.cl x) = _; rw [hvx]; exact hso, rfl⟩), HW.out⟩
        case measure => exact hm1
      | true =>
        rw [hso] at HSV
        go_wp2_with fail
        refine HSV.out.mono ?_
        rintro e wz ⟨rfl, hbz⟩
        have hz2 : Below w1.heap.size w1 wz := ((Below.refl _ _).alloc (Nat.le_refl _) _).trans (hbz.mono (by rw [World.size_alloc]; omega))
        replace HRG := Lib.hid (ranges_move HRG.out (hz2.block cb hcl) (hz2.block _ hr0))
        replace HS := Lib.hid (HS.out.b hz2)
        replace HB := Lib.hid (HB.out.trans (hz2.mono HB.out.size))
        replace hr0 : w.heap.size < wz.heap.size := Nat.lt_of_lt_of_le hr0 hz2.size
        replace hcl : cb < wz.heap.size := Nat.lt_of_lt_of_le hcl hz2.size
        have hm1 : wz.rangeLeft cb w.heap.size < wr.rangeLeft cb w.heap.size := by rw [HRG.out.left_eq, hcnt]; exact hlt1
        clear hz2 hbz
        obtain ⟨i0, hi, hz0, hz1, hz2⟩ := info_parts int_info
        go_wp2_with (at_builtin; refine wpList_append_sl _ rfl (.tmp 24) (.tmp 26) 38 rfl 3 i0 _ 1 8 Try.underlying38 hi hz0 hz1 hz2 rfl (by decide) (.slice A l.length c) l.length (encI l) rfl ?hs ⟨_, 0, none⟩ 1 1 [.int .i64 x] rfl rfl ?hn ?h1 ?hm ?hb ?_)
        case hs => repeat (first | exact HS.out | refine Sl.alloc ?_ _)
        case hn => exact news1 (by simp)
        case h1 => simp [Value.oneCell']
        case hm => unfold maxLen; omega
        case hb => omega
        intro A2 c2 w2 hs2 ho2 hl2
        have hz : (wz.alloc (.cells #[.int .i64 x] 3)).heap.size = wz.heap.size + 1 := World.size_alloc _ _
        have hmv : ∀ g, g < wz.heap.size → g ≤ w.heap.size → w2.heap[g]? = wz.heap[g]? := fun g h1 h2 =>
          (ho2.block g (by rw [hz]; omega) (fun e => by have := HO.out g e; omega)).trans (Below.heap_alloc _ _ _ h1)
        have hr2 := ranges_move HRG.out (hmv cb (by omega) (by omega)) (hmv _ hr0 (Nat.le_refl _))
        have hm2 : w2.rangeLeft cb w.heap.size < wr.rangeLeft cb w.heap.size := by rw [hr2.left_eq]; rw [HRG.out.left_eq] at hm1; exact hm1
        have hb2 : Below w.heap.size w w2 := B_only (HB.out.alloc HB.out.size _) ho2 (fun g hg => by have := HO.out g hg; omega)
        have ho3 := own_later hl2 HO.out (by rw [hz]; omega)
        have HR2 := Lib.hid hr2
        have HB2 := Lib.hid hb2
        have HO3 := Lib.hid ho3
        have HS2 := Lib.hid hs2
        clear hs2 ho2 hl2 hr2 hb2 ho3 hmv
        go_wp2_with fail
        go_roundw
        case rel => exact ⟨_, cnt1, l ++ [x], A2, c2, HR2.out, by simp, by simp; omega, by rw [List.length_append, show encI (l ++ [x]) = encI l ++ [.int .i64 x] by simp [encI]]; exact HS2.out, by rw [List.length_append]; exact HO3.out, HB2.out,
          List.nodup_append.2 ⟨HN.out, by simp, fun a ha b hb e => hnx (by simp at hb; rw [← hb, ← e]; exact ha)⟩, mem_stepB (fun i => so (s.cl i)) HM.out hd hlx _ (.inl ⟨by show so (s.cl x) = _; rw [hvx]; exact hso, rfl⟩), fun i hi => by
            rcases List.mem_append.1 hi with hi | hi
            · exact HW.out i hi
            · simp at hi; rw [hi]; exact hwx⟩
        case measure => exact hm2

def soEnded (v : Bool × Bool) : Bool := v.2
def soGreeted (v : Bool × Bool) : Bool := v.1 && !v.2
theorem ended_is : SoOf 37 soEnded := fun v W => by
  have HB : Hid (Below W.heap.size W (W.alloc (.cells #[.bool v.1, .bool v.2] 54))) := Lib.hid ((Below.refl _ _).alloc (Nat.le_refl _) _)
  go_enter Try.func37, Try.ntmps37
  go_wp2_with fail
  go_ret
  exact ⟨rfl, HB.out⟩
theorem greeted_is : SoOf 38 soGreeted := fun ⟨g, e⟩ W => by
  have HB : Hid (Below W.heap.size W (W.alloc (.cells #[.bool g, .bool e] 54))) := Lib.hid ((Below.refl _ _).alloc (Nat.le_refl _) _)
  cases g with
  | false =>
    go_enter Try.func38, Try.ntmps38
    go_wp2_with fail
    go_ret
    exact ⟨rfl, HB.out⟩
  | true =>
    go_enter Try.func38, Try.ntmps38
    go_wp2_with fail
    go_ret
    exact ⟨by simp [soGreeted], HB.out⟩
theorem Ended_any (base : Bs) (b n : Nat) (s : St) (w : World) (h : WAt base w b n s) (hn : n < 1000) :
    Calls Try.prog 19 #[.pointer (some ⟨b, 0, none⟩)] w (OfPost soEnded s w) := by
  obtain ⟨mb, cb, hx⟩ := h
  have HC := Lib.hid (ends_any soEnded rfl ended_is base b n s mb cb w hx hn)
  clear hx
  go_enter Try.func19, Try.ntmps19
  go_wp2_with fail
  refine HC.out.mono ?_
  rintro e w1 ⟨A, c, l, rfl, h1, h2⟩
  have HP := Lib.hid h2
  clear h2
  go_wp2_with fail
  go_ret
  exact ⟨A, c, l, rfl, h1, HP.out⟩
theorem Greeted_any (base : Bs) (b n : Nat) (s : St) (w : World) (h : WAt base w b n s) (hn : n < 1000) :
    Calls Try.prog 20 #[.pointer (some ⟨b, 0, none⟩)] w (OfPost soGreeted s w) := by
  obtain ⟨mb, cb, hx⟩ := h
  have HC := Lib.hid (greets_any soGreeted rfl greeted_is base b n s mb cb w hx hn)
  clear hx
  go_enter Try.func20, Try.ntmps20
  go_wp2_with fail
  refine HC.out.mono ?_
  rintro e w1 ⟨A, c, l, rfl, h1, h2⟩
  have HP := Lib.hid h2
  clear h2
  go_wp2_with fail
  go_ret
  exact ⟨A, c, l, rfl, h1, HP.out⟩
end Go.Proofs.Ytghjhcobmbobcaa.Wt
