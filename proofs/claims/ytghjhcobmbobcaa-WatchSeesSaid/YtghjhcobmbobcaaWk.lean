/- The connections that are so, rising ((*Watch).conns). -/
import Derived.Test.YtghjhcobmbobcaaWb
import Derived.Test.YtghjhcobmbobcaaWt
import Derived.Maps.RangeWalk
namespace Go.Proofs.Ytghjhcobmbobcaa.Wt
open Go.RowKit Go.Proofs.Ytghjhcobmbobcaa.Mp Go.Proofs.Ytghjhcobmbobcaa Go.Maps

def encI (l : List Int) : List Value := l.map (Value.int .i64)
theorem int_info : (Try.prog.info? 3).map (fun i => (i.zero, i.size, i.bytes)) = some (some (.int .i64 0), 1, 8) := by kernel_rfl
/-- What the closure answers. -/
def SoIs (fn : FuncId) (so : Int → Bool) : Prop := ∀ (v : Int) (W : World), Calls Try.prog fn #[.int .i64 v] W fun e w' => e = .returned (.bool (so v)) ∧ w' = W
theorem ranges_move {P : Program} {k : TypeId} {R : Value → Option (DataW Nat × List MemPlace)} {w w' : World} {b r n : Nat} {D : DataW Nat} {left : Lit → Bool} {cnt : Nat} (h : w.ranges P k R b r n D left cnt) (hb : w'.heap[b]? = w.heap[b]?) (hr : w'.heap[r]? = w.heap[r]?) : w'.ranges P k R b r n D left cnt := by
  obtain ⟨es, clock, since, seen, c0, h1, h2, h3, h4, h5, q⟩ := h
  exact ⟨es, clock, since, seen, c0, hb.trans h1, h2, h3, h4, hr.trans h5, q⟩
theorem ranges_cnt {P : Program} {k : TypeId} {R : Value → Option (DataW Nat × List MemPlace)} {w : World} {b r n : Nat} {D : DataW Nat} {left : Lit → Bool} {cnt : Nat} (h : w.ranges P k R b r n D left cnt) : cnt ≤ n := by
  obtain ⟨es, clock, since, seen, c0, h1, h2, h3, h4, h5, h6, h7, q⟩ := h
  have : (leftOf es seen).size ≤ es.size := by unfold leftOf; exact Array.size_filter_le
  omega
theorem news1 {w : World} {g : Nat} {a : Value} (h0 : w.cell? ⟨g, 0, none⟩ = some a) : ∀ (j : Nat) (u : Value), [a][j]? = some u → w.cell? ((⟨g, 0, none⟩ : Addr).add j) = some u
  | 0, u, hu => by simp at hu; subst hu; rw [addr_add]; exact h0
  | j + 1, u, hu => by simp at hu
theorem same_self (x : Int) : (Lit.int .i64 x).sameKey (.int .i64 x) = true := by simp [Lit.sameKey]
/-- The members after a round. -/
theorem mem_step {l : List Int} {D : DataW Nat} {left : Lit → Bool} {so : Int → Bool} {val : Int → Int} {x : Int} (hmem : ∀ i, (Lit.int .i64 i).wf = true → (i ∈ l ↔ has D (.int .i64 i) = true ∧ left (.int .i64 i) = false ∧ so (val i) = true))
    (hd : has D (.int .i64 x) = true) (hlx : left (.int .i64 x) = true) (l' : List Int) (hl : (so (val x) = true ∧ l' = l ++ [x]) ∨ (so (val x) = false ∧ l' = l)) :
    ∀ i, (Lit.int .i64 i).wf = true → (i ∈ l' ↔ has D (.int .i64 i) = true ∧ (left (.int .i64 i) && !(Lit.int .i64 i).sameKey (.int .i64 x)) = false ∧ so (val i) = true) := fun i hi => by
  have h := hmem i hi
  by_cases hix : i = x
  · subst hix
    rw [same_self, hd]
    rcases hl with ⟨h1, rfl⟩ | ⟨h1, rfl⟩
    · simp [h1]
    · rw [h, hlx, h1]; simp
  · rw [sameKey_ne (lit_ne hix)]
    rcases hl with ⟨h1, rfl⟩ | ⟨h1, rfl⟩
    · simp [hix, h]
    · simpa using h
theorem sortI_len (l : List Int) : (sortI l).length = l.length := (List.mergeSort_perm l _).length_eq
def ConnsPost (so : Int → Bool) (s : St) (w : World) (e : Ending) (w' : World) : Prop := ∃ A c l, e = .returned (.slice A (sortI l).length c) ∧ (sortI l).length ≤ c ∧ IntsAt w' A (sortI l) ∧ l.length ≤ 1000 ∧ l.Nodup ∧ (∀ i ∈ l, (Lit.int .i64 i).wf = true) ∧
  (∀ i, (Lit.int .i64 i).wf = true → (i ∈ l ↔ s.nx i ≠ 0 ∧ so ((s.nx i).val : Int) = true)) ∧ Below w.heap.size w w'
set_option maxRecDepth 100000 in
theorem conns_any (so : Int → Bool) (hso : SoIs 25 so) (base : Bs) (b n : Nat) (s : St) (mb cb : Nat) (w : World) (hX : WX base w b n s mb cb) (hn : n < 1000) :
    Calls Try.prog 24 #[.pointer (some ⟨b, 0, none⟩), .func (.func 25) #[] #[]] w (ConnsPost so s w) := by
  obtain ⟨D, hown, hat, hhas⟩ := hX.2.1
  have c1 := hX.c1
  have HSO := Lib.hid hso
  clear hso
  go_enter Try.func24, Try.ntmps24
  have hlt : mb < w.heap.size := hX.2.1.lt
  go_wp2_with (at_range; refine wpList_range_own _ rfl _ 48 rfl 3 3 (int_keyed uInt) Try.underlying48 _ mb n D rfl hown ?_; intro w0 hrg0 hg0 hs0)
  go_frame
  go_loopw [5] (fun sl wr => ∃ (left : Lit → Bool) (cnt : Nat) (l : List Int) (A : Option Addr) (c : Nat), wr.ranges Try.prog 3 (numR Try.prog 3) mb w.heap.size n D left cnt ∧ sl = .slice A l.length c ∧ l.length + cnt ≤ n ∧
      Sl wr 3 1 (.slice A l.length c) l.length (encI l) ∧ (∀ g, Value.ownBlock (.slice A l.length c) = some g → w.heap.size + 1 ≤ g) ∧ Below w.heap.size w wr ∧ l.Nodup ∧
      (∀ i, (Lit.int .i64 i).wf = true → (i ∈ l ↔ has D (.int .i64 i) = true ∧ left (.int .i64 i) = false ∧ so ((s.nx i).val : Int) = true)) ∧ (∀ i ∈ l, (Lit.int .i64 i).wf = true)) (fun _ wr => wr.rangeLeft mb w.heap.size)
  case atStart =>
    exact ⟨has D, Maps.size D, [], none, 0, hrg0, rfl, by have := ranges_cnt hrg0; simpa using this, Sl.nil _ _ _, fun g hg => by simp [Value.ownBlock] at hg, (Below.refl _ w).grown hg0 (Nat.le_refl _) (fun k hk => by cases hk), List.nodup_nil,
      fun i _ => ⟨fun h => (by cases h), fun h => by rw [h.1] at h; exact absurd h.2.1 (by simp)⟩, fun i h => (by cases h)⟩
  case round =>
    obtain ⟨left, cnt, l, A, c, hrg, rfl, hlen, hS, hO, hB, hnd, hmem, hwf⟩ := hrel
    go_wp2_with (at_next; refine wpList_next_ranges_ii _ rfl _ rfl 3 3 .i64 .i64 (int_keyed uInt) uInt uInt mb w.heap.size n _ _ _ rfl hrg ?_ ?_)
    · intro hc0 hl0
      have hmem2 : ∀ i, (Lit.int .i64 i).wf = true → (i ∈ l ↔ s.nx i ≠ 0 ∧ so ((s.nx i).val : Int) = true) := fun i hi => by
        rw [hmem i hi]
        have hiff : has D (.int .i64 i) = true ↔ s.nx i ≠ 0 := by
          refine ⟨fun h => hhas rfl i hi h, fun h => ?_⟩
          cases hh : has D (.int .i64 i) with
          | true => rfl
          | false =>
            have e := (atKey_of_not_has hh (eN.dat eN.zero)).symm.trans (hat i hi)
            have e2 : DataW.lit (H := Nat) (Lit.int .i64 0) = .lit (.int .i64 ((s.nx i).val : Int)) := e
            simp only [DataW.lit.injEq, Lit.int.injEq, true_and] at e2
            exact absurd (Fin.ext (Int.ofNat.inj e2.symm)) h
        rw [hiff]
        simp [hl0]
      have hlc : l.length ≤ c := by
        obtain ⟨_, _, e, h1, _⟩ := hS.slice
        injection e with _ _ e
        rw [e]; exact h1
      have HSO2 := Lib.hid (sort_sl wr w.heap.size c A l hS (by omega) (fun g hg => by have := hO g hg; omega))
      have HP : Hid (∀ w2, Below w.heap.size wr w2 → IntsAt w2 A (sortI l) → ConnsPost so s w (.returned (.slice A l.length c)) w2) := Lib.hid fun w2 h1 h2 =>
        ⟨A, c, l, by rw [sortI_len], by rw [sortI_len]; exact hlc, h2, by omega, hnd, hwf, hmem2, hB.trans h1⟩
      clear hmem2 hlc hmem hwf hnd hS hO hB hrg hat hhas hX hown c1 hrg0 hg0 hs0
      go_wp2_with fail
      refine HSO2.out.mono ?_
      rintro e w2 ⟨rfl, h1, h2⟩
      have HA := Lib.hid (HP.out w2 h1 h2)
      clear h1 h2
      go_wp2_with fail
      go_ret
      exact HA.out
    · intro x v w1 cnt1 hwx hwv hlx hatx hrg1 hlt1 hg1 hs1 hen
      have hd : has D (.int .i64 x) = true := has_true_of_atKey hatx
      have hvx : ((s.nx x).val : Int) = v := by
        have e := (hatx (eN.dat eN.zero)).symm.trans (hat x hwx)
        have e2 : DataW.lit (H := Nat) (Lit.int .i64 v) = .lit (.int .i64 ((s.nx x).val : Int)) := e
        simp only [DataW.lit.injEq, Lit.int.injEq, true_and] at e2
        exact e2.symm
      have hS1 : Sl w1 3 1 (.slice A l.length c) l.length (encI l) := hS.move fun g hg => hg1.block g (hS.lt hg) (by have := hO g hg; intro e; cases e; omega)
      have hB1 : Below w.heap.size w w1 := hB.grown hg1 hB.size (fun k hk => by cases hk; exact Nat.le_refl _)
      have hnx : x ∉ l := fun hx => by have := (hmem x hwx).1 hx; rw [hlx] at this; exact absurd this.2.1 (by simp)
      have HRG := Lib.hid hrg1
      have HS := Lib.hid hS1
      have HO := Lib.hid hO
      have HB := Lib.hid hB1
      have HM := Lib.hid hmem
      have HW := Lib.hid hwf
      have HN := Lib.hid hnd
      have HSV := Lib.hid (HSO.out v w1)
      have hr0 : w.heap.size < w1.heap.size := by
        obtain ⟨_, _, _, _, _, _, _, _, _, h5, _⟩ := hrg1
        exact (Array.getElem?_eq_some_iff.1 h5).1
      have hm1 : w1.rangeLeft mb w.heap.size < wr.rangeLeft mb w.heap.size := by rw [hrg1.left_eq, hrg.left_eq]; exact hlt1
      clear hrg1 hS1 hO hB1 hmem hwf hnd hS hB hrg hat hhas hatx hg1 hs1 hX hown c1 hrg0 hg0 hs0
      cases hso : so v with
      | false =>
        rw [hso] at HSV
        go_wp2_with fail
        refine HSV.out.mono ?_
        rintro e w2 ⟨rfl, rfl⟩
        go_wp2_with fail
        go_roundw
        case rel => exact ⟨_, cnt1, l, A, c, HRG.out, rfl, by omega, HS.out, HO.out, HB.out, HN.out, mem_step HM.out hd hlx l (.inr ⟨by rw [hvx]; exact hso, rfl⟩), HW.out⟩
        case measure => exact hm1
      | true =>
        rw [hso] at HSV
        go_wp2_with fail
        refine HSV.out.mono ?_
        rintro e wz ⟨rfl, hwz⟩
        rw [hwz]
        clear hwz wz
        obtain ⟨i0, hi, hz0, hz1, hz2⟩ := info_parts int_info
        go_wp2_with (at_builtin; refine wpList_append_sl _ rfl (.tmp 24) (.tmp 26) 38 rfl 3 i0 _ 1 8 Try.underlying38 hi hz0 hz1 hz2 rfl (by decide) (.slice A l.length c) l.length (encI l) rfl ?hs ⟨_, 0, none⟩ 1 1 [.int .i64 x] rfl rfl ?hn ?h1 ?hm ?hb ?_)
        case hs => repeat (first | exact HS.out | refine Sl.alloc ?_ _)
        case hn => exact news1 (by simp)
        case h1 => simp [Value.oneCell']
        case hm => unfold maxLen; omega
        case hb => omega
        intro A2 c2 w2 hs2 ho2 hl2
        have hz : (w1.alloc (.cells #[.int .i64 x] 3)).heap.size = w1.heap.size + 1 := World.size_alloc _ _
        have hmv : ∀ g, g < w1.heap.size → g ≤ w.heap.size → w2.heap[g]? = w1.heap[g]? := fun g h1 h2 =>
          (ho2.block g (by rw [hz]; omega) (fun e => by have := HO.out g e; omega)).trans (Below.heap_alloc _ _ _ h1)
        have hr2 := ranges_move HRG.out (hmv mb (by omega) (by omega)) (hmv _ hr0 (Nat.le_refl _))
        have hm2 : w2.rangeLeft mb w.heap.size < wr.rangeLeft mb w.heap.size := by rw [hr2.left_eq]; rw [HRG.out.left_eq] at hm1; exact hm1
        have hb2 : Below w.heap.size w w2 := B_only (HB.out.alloc HB.out.size _) ho2 (fun g hg => by have := HO.out g hg; omega)
        have ho3 := own_later hl2 HO.out (by rw [hz]; omega)
        have HR2 := Lib.hid hr2
        have HB2 := Lib.hid hb2
        have HO3 := Lib.hid ho3
        have HS2 := Lib.hid hs2
        clear hs2 ho2 hl2 hr2 hb2 ho3 hmv
        go_wp2_with fail
        go_roundw
        case rel => exact ⟨_, cnt1, l ++ [x], A2, c2, HR2.out, by simp, by simp; omega, by rw [List.length_append, show encI (l ++ [x]) = encI l ++ [.int .i64 x] by simp [encI]]; exact HS2.out, by rw [List.length_append]; exact HO3.out, HB2.out,
          List.nodup_append.2 ⟨HN.out, by simp, fun a ha b hb e => hnx (by simp at hb; rw [← hb, ← e]; exact ha)⟩, mem_step HM.out hd hlx _ (.inl ⟨by rw [hvx]; exact hso, rfl⟩), fun i hi => by
            rcases List.mem_append.1 hi with hi | hi
            · exact HW.out i hi
            · simp at hi; rw [hi]; exact hwx⟩
        case measure => exact hm2
end Go.Proofs.Ytghjhcobmbobcaa.Wt
