/- TraceLines. -/
import Derived.Test.YthalpaggcdpcbaaDoorTrV
import Derived.Test.YthalpaggcdpcbaaDoorTrT
import Derived.Deep.RegionHeld3
namespace Go.Proofs.YthalpaggcdpcbaaDoor.Tr
open Go.RowKit Go.Proofs.YthalpaggcdpcbaaDoor Go.Proofs.YthalpaggcdpcbaaDoor.Nm Go.Proofs.YthalpaggcdpcbaaDoor.Cf
theorem enc_get : ∀ (L : List OutV) (j : Nat) (o : OutV), L[j]? = some o → ∀ (i : Nat) (u : Value), (encO o)[i]? = some u → (L.flatMap encO)[j * 5 + i]? = some u
  | [], j, o, h, _, _, _ => by simp at h
  | x :: r, 0, o, h, i, u, hu => by
    simp at h
    subst h
    have hi := (List.getElem?_eq_some_iff.1 hu).1
    rw [List.flatMap_cons, show 0 * 5 + i = i by omega, List.getElem?_append_left hi]
    exact hu
  | x :: r, j + 1, o, h, i, u, hu => by
    simp at h
    have ih := enc_get r j o h i u hu
    rw [List.flatMap_cons, List.getElem?_append_right (by show 5 ≤ _; omega), show (j + 1) * 5 + i - (encO x).length = j * 5 + i by show (j + 1) * 5 + i - 5 = _; omega]
    exact ih
theorem outs_of_Sl {w : World} {A : Option Addr} {n c : Nat} {L : List OutV} (h : Sl w 27 5 (.slice A n c) n (L.flatMap encO)) (hn : L.length = n) : OutsAt w A L := fun j o hj => by
  have hlt := (List.getElem?_eq_some_iff.1 hj).1
  obtain ⟨g, off, rfl, _, hc⟩ := h.cells (by omega)
  have f : ∀ (i : Nat) (u : Value), (encO o)[i]? = some u → w.cell? ⟨g, off + (j * 5 + i), none⟩ = some u := fun i u hu => hc _ _ (enc_get L j o hj i u hu)
  exact ⟨g, off, rfl, f 0 _ rfl, f 1 _ rfl, f 2 _ rfl, f 3 _ rfl, f 4 _ rfl⟩
theorem sl_capO {w : World} {A : Option Addr} {n c m : Nat} {xs : List Value} (h : Sl w 27 5 (.slice A n c) m xs) : n ≤ c := by
  obtain ⟨A3, c3, e, h1, _⟩ := h.slice
  cases e
  exact h1
theorem news5 {w : World} {g : Nat} {o : OutV} (h : Blk w g 27 (encO o).toArray) : ∀ (j : Nat) (u : Value), (encO o)[j]? = some u → w.cell? ((⟨g, 0, none⟩ : Addr).add j) = some u := fun j u hj => by
  rw [addr_add, show 0 + j = j by omega, h.cell]
  simpa using hj
theorem out_info : (Tryd.prog.info? 27).map (fun i => (i.zero, i.size, i.bytes)) = some (some (.agg #[.int .i64 0, .int .i64 0, .int .i64 0, .string ByteArray.empty, .string ByteArray.empty]), 5, 56) := by kernel_rfl
theorem lies_new {w w0 : World} {v v' : Value} (h : Lies w v v') (hv : ∀ g, v.ownBlock = some g → w0.heap.size ≤ g) (hs : w0.heap.size ≤ w.heap.size) : ∀ g, v'.ownBlock = some g → w0.heap.size ≤ g := fun g hg => by
  rcases h with h | ⟨g', h, h2⟩
  · exact hv g (h.symm.trans hg)
  · rw [hg] at h
    cases h
    omega
set_option maxRecDepth 100000 in
set_option maxHeartbeats 8000000 in
theorem lines_walk (w : World) (A0 : Option Addr) (c0 : Nat) (l0 : List OutV) (h0 : OutsAt w A0 l0) (hc0 : l0.length ≤ c0) (hm0 : l0.length ≤ 140737488355328) (hv : VarsC w) :
    Calls Tryd.prog 3 #[.slice A0 l0.length c0] w fun e w' => e = .returned (.bool true) ∧ Below w.heap.size w w' := by
  obtain ⟨i0, hi, hz0, hz1, hz2⟩ := info_parts out_info
  have H := Lib.hid h0
  have HV := Lib.hid hv
  have HLV := Lib.hid (fun W h => lives_any W h)
  clear h0 hv
  go_enter Tryd.func3, Tryd.ntmps3
  go_wp2_with fail
  refine (HLV.out _ (by exact HV.out)).mono ?_
  rintro e w1 ⟨rfl, b1⟩
  have B1 := Lib.hid (show B w w1 from b1)
  clear b1
  go_wp2_with fail
  go_loopw [3, 4] (fun lv i wr => ∃ (L : List OutV) (A : Option Addr) (c j : Nat), j ≤ l0.length ∧ j ≤ 20 ∧ i = .int .i64 j ∧ lv = .slice A j c ∧ L.length = j ∧ (∀ o ∈ L, Short o) ∧ Sl wr 27 5 (.slice A j c) j (L.flatMap encO) ∧ (∀ g, Value.ownBlock (.slice A j c) = some g → w.heap.size ≤ g) ∧ B w wr) (fun _ i _ => 20 - (intOf i).toNat)
  case atStart => exact ⟨[], none, 0, 0, Nat.zero_le _, Nat.zero_le _, rfl, rfl, rfl, fun o ho => (by cases ho), Sl.nil _ _ _, fun g hg => (by cases hg), by repeat (first | with_reducible exact B1.out | refine B_drew ?_ | refine B_drewN ?_ _)⟩
  case round =>
    obtain ⟨L, A, c, j, hj0, hj20, rfl, rfl, hL, hsh, hsl, how, hr⟩ := hrel
    have BR := Lib.hid hr
    have HSL := Lib.hid hsl
    have HOW := Lib.hid how
    have HSH := Lib.hid hsh
    have hcap := sl_capO hsl
    clear hr hsl how hsh
    by_cases hjm : j < l0.length ∧ j < 20
    · obtain ⟨hj1, hj2⟩ := hjm
      obtain ⟨⟨k, id, fk, dd0, tt0⟩, ho⟩ : ∃ o, l0[j]? = some o := ⟨_, List.getElem?_eq_getElem hj1⟩
      obtain ⟨g, off, rfl, c0', c1', c2', c3', c4'⟩ := (H.out.below BR.out) j _ ho
      simp only at c0' c1' c2' c3' c4'
      obtain ⟨d, t, hd, ht, hfew⟩ := few_any k id fk dd0 tt0
      have HF := Lib.hid hfew
      have HSO := Lib.hid (show Short ⟨k, id, fk, d, t⟩ from ⟨hd, ht⟩)
      have HL1 := Lib.hid (fun W h => line_any ⟨k, id, fk, d, t⟩ (by simp only; omega) (by simp only; omega) W h)
      have HL2 := Lib.hid (fun W => refline_any ⟨k, id, fk, d, t⟩ (by simp only; omega) (by simp only; omega) W)
      have HR1 := Lib.hid (right_any ⟨k, id, fk, d, t⟩)
      have HR2 := Lib.hid (refright_any ⟨k, id, fk, d, t⟩ (by simp only; omega))
      unfold LinePost outArg at HL1 HL2
      unfold RightIs outArg at HR1
      unfold RefIs outArg at HR2
      dsimp only at HL1 HL2 HR1 HR2
      generalize (lineV ⟨k, id, fk, d, t⟩).1 = lx at *
      generalize (lineV ⟨k, id, fk, d, t⟩).2 = lc at *
      generalize rightV ⟨k, id, fk, d, t⟩ = rr at *
      clear hfew ho hd ht
      go_wp2_with fail
      refine (HF.out _).mono ?_
      rintro e w2 ⟨rfl, b2⟩
      have B2 := Lib.hid (show B wr w2 from B_trans (by repeat (first | with_reducible exact B_refl _ | refine B_drew ?_ | refine B_drewN ?_ _)) b2)
      have HK2 := Lib.hid (Blk.new w2 27 #[.int .i64 k, .int .i64 id, .int .i64 fk, .string d, .string t])
      have HS2 := Lib.hid (HSL.out.b (B_alloc B2.out (.cells #[.int .i64 k, .int .i64 id, .int .i64 fk, .string d, .string t] 27)))
      have hw2 : wr.heap.size ≤ w2.heap.size := B2.out.size
      clear b2
      go_wp2_with (at_builtin; refine wpList_append_sl _ rfl (.tmp 27) (.tmp 29) 22 rfl 27 i0 _ 5 56 Tryd.underlying22 hi hz0 hz1 hz2 rfl (by decide) (.slice A j c) j (L.flatMap encO) rfl ?hs ⟨_, 0, none⟩ 1 1 (encO ⟨k, id, fk, d, t⟩) rfl rfl ?hn ?h1 ?hm ?hb ?_)
      case hs => repeat (first | with_reducible exact HS2.out | refine Sl.alloc ?_ _)
      case hn => exact news5 (show Blk _ _ _ _ from heap_at_new _ (by simp))
      case h1 =>
        intro u hu
        simp [encO] at hu
        rcases hu with rfl | rfl | rfl | rfl | rfl <;> simp [Value.oneCell']
      case hm => unfold maxLen; omega
      case hb => omega
      intro A2 c2 w7 hs7 ho7 hl7
      have HS7 := Lib.hid (show Sl w7 27 5 (.slice A2 (j + 1) c2) (j + 1) ((L ++ [(⟨k, id, fk, d, t⟩ : OutV)]).flatMap encO) by rw [List.flatMap_append]; simpa using hs7)
      have HK7 := Lib.hid (show Blk w7 w2.heap.size 27 #[.int .i64 k, .int .i64 id, .int .i64 fk, .string d, .string t] from (HK2.out.alloc _).only ho7 (fun e => by have := HSL.out.lt e; omega))
      have B7 := Lib.hid (show B w w7 from B_only (B_alloc (B_alloc (B_trans BR.out B2.out) _) _) ho7 HOW.out)
      have HOW7 := Lib.hid (lies_new hl7 HOW.out (B_alloc (B_alloc (B_trans BR.out B2.out) _) _).size)
      clear hs7 ho7 hl7 HK2 HS2 B2 HSL HOW BR
      have hk7 := HK7.out
      have d0 := hk7.cell 0
      have d1 := hk7.cell 1
      have d2 := hk7.cell 2
      have d3 := hk7.cell 3
      have d4 := hk7.cell 4
      have hql := hk7.lt
      have fz := fun i => hk7.frozen i
      simp at d0 d1 d2 d3 d4
      clear hk7
      go_wp2_with fail
      refine (HL1.out _ (HV.out.below B7.out)).mono ?_
      rintro e w8 ⟨rfl, b8⟩
      clear d0 d1 d2 d3 d4 hql fz
      have B8 := Lib.hid (show B w w8 from B_trans B7.out b8)
      have HK8 := Lib.hid (HK7.out.b b8)
      have HS8 := Lib.hid (HS7.out.b b8)
      have hk8 := HK8.out
      have d0 := hk8.cell 0
      have d1 := hk8.cell 1
      have d2 := hk8.cell 2
      have d3 := hk8.cell 3
      have d4 := hk8.cell 4
      have hql := hk8.lt
      have fz := fun i => hk8.frozen i
      simp at d0 d1 d2 d3 d4
      clear hk8 b8 HK7 HS7 B7
      go_wp2_with fail
      refine (HL2.out _).mono ?_
      rintro e w9 ⟨rfl, b9⟩
      clear d0 d1 d2 d3 d4 hql fz
      have B9 := Lib.hid (show B w w9 from (B_trans (by first | exact B8.out | exact B_drew B8.out | exact B_drewN B8.out _) b9))
      have HK9 := Lib.hid (show Blk w9 w2.heap.size 27 #[.int .i64 k, .int .i64 id, .int .i64 fk, .string d, .string t] from HK8.out.b b9)
      have HS9 := Lib.hid (HS8.out.b b9)
      generalize w2.heap.size = p at *
      have hk9 := HK9.out
      have d0 := hk9.cell 0
      have d1 := hk9.cell 1
      have d2 := hk9.cell 2
      have d3 := hk9.cell 3
      have d4 := hk9.cell 4
      have hql := hk9.lt
      have fz := fun i => hk9.frozen i
      simp at d0 d1 d2 d3 d4
      clear hk9 b9 HK8 HS8 B8
      go_wp2_with fail
      have HKS := Lib.hid (fun (W : World) (b : B w9 W) => (show W.cell? ⟨p, 0, none⟩ = some (.int .i64 k) ∧ W.cell? ⟨p, 1, none⟩ = some (.int .i64 id) ∧ W.cell? ⟨p, 2, none⟩ = some (.int .i64 fk) ∧ W.cell? ⟨p, 3, none⟩ = some (.string d) ∧ W.cell? ⟨p, 4, none⟩ = some (.string t) from ⟨(HK9.out.b b).cell 0, (HK9.out.b b).cell 1, (HK9.out.b b).cell 2, (HK9.out.b b).cell 3, (HK9.out.b b).cell 4⟩))
      clear d0 d1 d2 d3 d4 hql fz
      go_region_held3 (fun W => (W.cell? ⟨p, 0, none⟩ = some (.int .i64 k) ∧ W.cell? ⟨p, 1, none⟩ = some (.int .i64 id) ∧ W.cell? ⟨p, 2, none⟩ = some (.int .i64 fk) ∧ W.cell? ⟨p, 3, none⟩ = some (.string d) ∧ W.cell? ⟨p, 4, none⟩ = some (.string t)) ∧ B w9 W) ((refine ⟨HKS.out _ ?_, ?_⟩; (repeat (first | assumption | exact B_refl _ | refine B_drewN ?_ _ | refine B_drew ?_ | refine B_alloc ?_ _ | refine B_setCell ?_ (by first | (simp; done) | (simp; omega)) _ | refine B_trans ?_ (by assumption))))) (first | (go_at_call 13; refine (HR1.out _).mono ?_; rintro e wa ⟨rfl, ba⟩; have bba : B w9 wa := B_trans (by (repeat (first | assumption | exact B_refl _ | refine B_drewN ?_ _ | refine B_drew ?_ | refine B_alloc ?_ _ | refine B_setCell ?_ (by first | (simp; done) | (simp; omega)) _ | refine B_trans ?_ (by assumption)))) ba) | (go_at_call 14; refine (HR2.out _).mono ?_; rintro e wb ⟨rfl, bb⟩; have bbb : B w9 wb := B_trans (by (repeat (first | assumption | exact B_refl _ | refine B_drewN ?_ _ | refine B_drew ?_ | refine B_alloc ?_ _ | refine B_setCell ?_ (by first | (simp; done) | (simp; omega)) _ | refine B_trans ?_ (by assumption)))) bb))
      all_goals
        go_wp2_with fail
        go_roundw
        case rel => exact ⟨L ++ [(⟨k, id, fk, d, t⟩ : OutV)], A2, c2, j + 1, hj1, hj2, by push_cast; rfl, rfl, by rw [List.length_append, hL]; rfl, fun o ho => by
          rcases List.mem_append.1 ho with h | h
          · exact HSH.out o h
          · rw [List.mem_singleton.1 h]; exact HSO.out, HS9.out.b (by first | exact bbb | exact bba), HOW7.out, B_trans B9.out (by first | exact bbb | exact bba)⟩
        case measure => simp [intOf]; omega
    · subst hL
      have HOA := Lib.hid (outs_of_Sl HSL.out rfl)
      by_cases hjl : L.length < l0.length
      · have hj2 : ¬ L.length < 20 := fun e => hjm ⟨hjl, e⟩
        clear hjm
        go_wp2_with fail
        refine (lines_any A c L (by omega) hcap HSH.out _ (HOA.out.below (by repeat (first | with_reducible exact B_refl _ | refine B_drew ?_ | refine B_drewN ?_ _))) (HV.out.below (by repeat (first | with_reducible exact BR.out | refine B_drew ?_ | refine B_drewN ?_ _)))).mono ?_
        rintro e wx ⟨rfl, bx⟩
        have BX1 := Lib.hid (show B wr wx from B_trans (by repeat (first | with_reducible exact B_refl _ | refine B_drew ?_ | refine B_drewN ?_ _)) bx)
        clear bx
        go_wp2_with fail
        refine (reflines_any A c L (by omega) hcap HSH.out _ (HOA.out.below BX1.out)).mono ?_
        rintro e wy ⟨rfl, by1⟩
        have BY1 := Lib.hid (show B w wy from B_trans (B_trans BR.out BX1.out) by1)
        clear by1
        go_wp2_with fail
        go_ret
        exact ⟨rfl, by repeat (first | with_reducible exact BY1.out | refine B_drew ?_ | refine B_drewN ?_ _)⟩
      · clear hjm
        go_wp2_with fail
        refine (lines_any A c L (by omega) hcap HSH.out _ (HOA.out.below (by repeat (first | with_reducible exact B_refl _ | refine B_drew ?_ | refine B_drewN ?_ _))) (HV.out.below (by repeat (first | with_reducible exact BR.out | refine B_drew ?_ | refine B_drewN ?_ _)))).mono ?_
        rintro e wx ⟨rfl, bx⟩
        have BX1 := Lib.hid (show B wr wx from B_trans (by repeat (first | with_reducible exact B_refl _ | refine B_drew ?_ | refine B_drewN ?_ _)) bx)
        clear bx
        go_wp2_with fail
        refine (reflines_any A c L (by omega) hcap HSH.out _ (HOA.out.below BX1.out)).mono ?_
        rintro e wy ⟨rfl, by1⟩
        have BY1 := Lib.hid (show B w wy from B_trans (B_trans BR.out BX1.out) by1)
        clear by1
        go_wp2_with fail
        go_ret
        exact ⟨rfl, by repeat (first | with_reducible exact BY1.out | refine B_drew ?_ | refine B_drewN ?_ _)⟩
theorem outs_at {W : World} {A : Option Addr} {len : Nat} {xs : List Value} (rd : Rds W A xs) (lf : ∀ (i j : Nat) (k : FK), i < len → ([FK.int, FK.int, FK.int, FK.str, FK.str] : List FK)[j]? = some k → ∃ u, xs[i * 5 + j]? = some u ∧ leafOk k u) :
    ∃ l : List OutV, l.length = len ∧ OutsAt W A l := by
  have key : ∀ n, n ≤ len → ∃ l : List OutV, l.length = n ∧ OutsAt W A l := by
    intro n
    induction n with
    | zero => exact fun _ => ⟨[], rfl, fun j o h => by simp at h⟩
    | succ n ih =>
      intro hn
      obtain ⟨l, hl, ho⟩ := ih (by omega)
      obtain ⟨v0, e0, n0, rfl, _⟩ := lf n 0 _ (by omega) rfl
      obtain ⟨v1, e1, n1, rfl, _⟩ := lf n 1 _ (by omega) rfl
      obtain ⟨v2, e2, n2, rfl, _⟩ := lf n 2 _ (by omega) rfl
      obtain ⟨v3, e3, n3, rfl, _⟩ := lf n 3 _ (by omega) rfl
      obtain ⟨v4, e4, n4, rfl, _⟩ := lf n 4 _ (by omega) rfl
      obtain ⟨g, off, rfl, _, hc⟩ := rd.at_ e0
      refine ⟨l ++ [⟨n0, n1, n2, n3, n4⟩], by simp [hl], fun j o hj => ?_⟩
      by_cases hjn : j < l.length
      · rw [List.getElem?_append_left hjn] at hj
        exact ho j o hj
      · have hlt := (List.getElem?_eq_some_iff.1 hj).1
        simp at hlt
        obtain rfl : j = n := by omega
        rw [List.getElem?_append_right (by omega), show j - l.length = 0 by omega] at hj
        simp at hj
        subst hj
        have f : ∀ (i : Nat) (u : Value), xs[j * 5 + i]? = some u → W.cell? ⟨g, off + (j * 5 + i), none⟩ = some u := fun i u hu => by
          have := hc _ _ hu
          exact this
        exact ⟨g, off, rfl, f 0 _ e0, f 1 _ e1, f 2 _ e2, f 3 _ e3, f 4 _ e4⟩
  exact key len (Nat.le_refl _)
theorem walk_TraceLines (W : World) (a : Option Addr) (len cap : Nat) (hcap : len ≤ cap) (_ : cap ≤ maxLen) (y : len * 56 ≤ 140737488351232) (xs : List Value) (_l : xs.length = len * 5) (rd : Rds W a xs)
    (lf : ∀ (i j : Nat) (k : FK), i < len → ([FK.int, FK.int, FK.int, FK.str, FK.str] : List FK)[j]? = some k → ∃ u, xs[i * 5 + j]? = some u ∧ leafOk k u) (hv : VarsC W) :
    Calls Tryd.prog 3 #[.slice a len cap] W fun e w' => e = .returned (.bool true) ∧ Below W.heap.size W w' := by
  obtain ⟨l, rfl, ho⟩ := outs_at rd lf
  exact lines_walk W a cap l ho hcap (by omega) hv
end Go.Proofs.YthalpaggcdpcbaaDoor.Tr
