/- hostlerref19.Parts: the parts of any text. -/
import Derived.Test.YtogomkkglcddmaaDoorAdW
import Derived.Test.YtogomkkglcddmaaDoorCrN
namespace Go.Proofs.YtogomkkglcddmaaDoor.Ad
open Go.RowKit Go.Proofs.YtogomkkglcddmaaDoor Go.Proofs.YtogomkkglcddmaaDoor.Nm Go.Proofs.YtogomkkglcddmaaDoor.Cf
def stR (y : ByteArray) (k : Nat) : Bool := decide (y = odd) || decide (0 ≤ kOf y ∧ kOf y < k)
theorem stR_0 (y : ByteArray) : stR y 0 = (y.toList == [63]) := by
  unfold stR
  rw [decide_eq_false (by omega : ¬ (0 ≤ kOf y ∧ kOf y < (0 : Nat))), Bool.or_false, ByteArray.toList_eq]
  by_cases h : y = odd
  · rw [decide_eq_true h, h]; rfl
  · rw [decide_eq_false h]
    exact (beq_eq_false_iff_ne.2 fun e => h (ByteArray.ext (Array.toList_inj.1 e))).symm
theorem stR_up {y : ByteArray} {k : Nat} (h : stR y k = true) : stR y (k + 1) = true := by
  unfold stR at h ⊢
  rw [Bool.or_eq_true, decide_eq_true_eq, decide_eq_true_eq] at h ⊢
  rcases h with h | h
  · exact .inl h
  · exact .inr ⟨h.1, by omega⟩
theorem kOf_at {y : ByteArray} {k : Nat} (hk : k < 4) (h : statesL.getD k e0 = y) : kOf y = (k : Int) := by
  rcases kOf_cases y with ⟨j, hj, hx, h2⟩ | ⟨_, h2⟩
  · have := words_ne ⟨k, hk⟩ ⟨j, hj⟩ (h.trans hx)
    have e : k = j := congrArg Fin.val this
    rw [h2, e]
  · exact absurd h (h2 k hk)
theorem stR_hit {y : ByteArray} {k : Nat} (hk : k < 4) (h : statesL.getD k e0 = y) : stR y (k + 1) = true := by
  have := kOf_at hk h
  unfold stR
  rw [Bool.or_eq_true, decide_eq_true_eq, decide_eq_true_eq]
  exact .inr ⟨by omega, by omega⟩
theorem stR_miss {y : ByteArray} {k : Nat} (h0 : stR y k = false) (h : statesL.getD k e0 ≠ y) : stR y (k + 1) = false := by
  have hn : kOf y ≠ (k : Int) := by
    intro e
    rcases kOf_cases y with ⟨j, hj, hx, h2⟩ | ⟨h2, _⟩
    · obtain rfl : j = k := by omega
      exact h hx.symm
    · omega
  unfold stR at h0 ⊢
  rw [Bool.or_eq_false_iff, decide_eq_false_iff_not, decide_eq_false_iff_not] at h0 ⊢
  exact ⟨h0.1, fun e => h0.2 ⟨e.1, by omega⟩⟩
theorem stR_4 (y : ByteArray) : stR y 4 = stateB y := by
  unfold stR stateB
  rw [Bool.or_comm]
  congr 1
  rcases kOf_cases y with ⟨j, hj, _, h2⟩ | ⟨h2, _⟩
  · rw [decide_eq_true (by omega : 0 ≤ kOf y ∧ kOf y < (4 : Nat))]
    exact (decide_eq_true (by unfold kOf at h2; omega)).symm
  · rw [decide_eq_false (by omega : ¬ (0 ≤ kOf y ∧ kOf y < (4 : Nat)))]
    exact (decide_eq_false (by unfold kOf at h2; omega)).symm
theorem partsL_none {x y p q z : ByteArray} (h : nameB x = false ∨ numsV [p, q, z] = none) : partsL [x, y, p, q, z] = none := by
  rcases h with h | h
  · exact partsL_name (l := [x, y, p, q, z]) h
  · unfold partsL
    split
    · rw [show [x, y, p, q, z].drop 2 = [p, q, z] from rfl, h]
      rfl
    · rfl
theorem numsV_pre : ∀ {l : List ByteArray} {v : ByteArray} {d : List Int}, numsV l = none → numsV (l ++ [v]) = some d → False
  | [], _, _, h, _ => by unfold numsV at h; cases h
  | x :: r, v, d, h, h2 => by
    rw [List.cons_append] at h2
    unfold numsV at h h2
    cases hx : numV x with
    | none => rw [hx] at h2; cases h2
    | some a =>
      rw [hx] at h h2
      cases hr : numsV (r ++ [v]) with
      | none => rw [hr] at h2; cases h2
      | some e =>
        cases hr2 : numsV r with
        | none => exact numsV_pre hr2 hr
        | some f => rw [hr2] at h; cases h
set_option maxRecDepth 100000 in
set_option maxHeartbeats 2000000 in
theorem refparts_len {s x : ByteArray} {r : List ByteArray} {n : Nat} (hs : s.size ≤ 9999) (hl : cutV 32 s = x :: r) (hn : r.length + 1 = n) (h5 : n ≠ 5) (w : World) :
    Calls Tryd.prog 39 #[.string s] w (PartsPost none w) := by
  unfold PartsPost
  have HS := Lib.hid (words_cons hl hn hs w)
  have hne : ((n : Int) != 5) = true := by rw [bne_iff_ne]; omega
  clear hl
  go_enter Tryd.func39, Tryd.ntmps39
  go_wp2_with fail
  refine HS.out.mono ?_
  rintro e w2 ⟨g, o, cc, rfl, hcap, hgn, hlt, hx0, hx1, b2⟩
  go_wp2_with fail
  refine bodyPost_ret (results_four Tryd.results39 _ _) rfl ?_
  exact ⟨b2, rfl⟩
set_option maxRecDepth 100000 in
set_option maxHeartbeats 8000000 in
theorem refparts_five {s x y p q z : ByteArray} (hs : s.size ≤ 9999) (hl : cutV 32 s = [x, y, p, q, z]) (hxs : ∀ u ∈ [x, y, p, q, z], u.size ≤ 9999) (w : World) :
    Calls Tryd.prog 39 #[.string s] w (PartsPost (partsL [x, y, p, q, z]) w) := by
  have HS := Lib.hid (words_cons (n := 5) hl rfl hs w)
  obtain ⟨i0, hi, hz0, hz1, hz2⟩ := info_parts int_info
  have hxz : x.size ≤ 9999 := hxs x (by simp)
  have HN := Lib.hid (fun W => refname_nine x hxz W)
  have HXS := Lib.hid hxs
  have HNO := Lib.hid (partsL_none (x := x) (y := y) (p := p) (q := q) (z := z))
  have HST := Lib.hid (fun h => partsL_state (l := [x, y, p, q, z]) (h : stateB y = false))
  have HYES := Lib.hid (fun h h2 => partsL_five (x := x) (y := y) (p := p) (q := q) (z := z) h h2)
  have HR0 := Lib.hid (stR_0 y)
  have HR4 := Lib.hid (stR_4 y)
  have HUP := Lib.hid (fun k (h : stR y k = true) => stR_up h)
  have HHIT := Lib.hid (fun k hk h => stR_hit (y := y) (k := k) hk h)
  have HMISS := Lib.hid (fun k h0 h => stR_miss (y := y) (k := k) h0 h)
  obtain ⟨R, hR⟩ : ∃ R, partsL [x, y, p, q, z] = R := ⟨_, rfl⟩
  rw [hR] at HNO HST HYES ⊢
  generalize stateB y = sb at *
  generalize nameB x = bn at *
  clear hl hxs hR
  go_enter Tryd.func39, Tryd.ntmps39
  go_wp2_with fail
  refine HS.out.mono ?_
  rintro e w2 ⟨g, o, cc, rfl, hcap, hgn, hlt, hx0, hx1, b2⟩
  have hx1' := hx1 1 y rfl
  go_wp2_with fail
  refine (HN.out _).mono ?_
  rintro e w3 ⟨rfl, b3⟩
  have BB := Lib.hid (b2.trans (b3.mono b2.size))
  have hg3 : g < w3.heap.size := Nat.lt_of_lt_of_le hlt b3.size
  have h3 : ∀ (j : Nat) (u : ByteArray), [x, y, p, q, z][j]? = some u → w3.cell? ⟨g, o + j, none⟩ = some (.string u) := fun j u hj => (b3.cell (p := ⟨g, o + j, none⟩) hlt).trans (hx1 j u hj)
  have HX := Lib.hid h3
  have k1 := h3 1 y rfl
  clear b2 b3 h3 hx0 hx1 hx1' hlt HS HN hcap hgn
  go_wp2_with fail
  go_loopw [8, 9] (fun bv i wr => ∃ k : Nat, k ≤ 4 ∧ bv = .bool (stR y k) ∧ i = .int .i64 k ∧ Below w3.heap.size w3 wr) (fun _ i _ => 4 - (intOf i).toNat)
  case atStart => exact ⟨0, Nat.zero_le _, by rw [HR0.out], rfl, Below.refl _ _⟩
  case round =>
    obtain ⟨k, hk, rfl, rfl, hb⟩ := hrel
    have HB := Lib.hid hb
    have c1 : wr.cell? ⟨g, o + 1, none⟩ = some (.string y) := (hb.cell (p := ⟨g, o + 1, none⟩) hg3).trans k1
    have hgr : g < wr.heap.size := Nat.lt_of_lt_of_le hg3 hb.size
    by_cases hlt : k < 4
    · have hk4 : (k : Int) < 4 := by omega
      clear hb
      cases hst : stR y k with
      | true =>
        have HE := Lib.hid (HUP.out k hst)
        clear hst
        go_wp2_with fail
        go_quiet (fail)
        all_goals go_wp2_with fail
        all_goals go_roundw
        all_goals first | (exact ⟨k + 1, by omega, by rw [HE.out], by push_cast; rfl, HB.out⟩) | (exact ⟨k + 1, by omega, by rw [HE.out], by push_cast; rfl, HB.out.drew⟩) | (exact ⟨k + 1, by omega, by rw [HE.out], by push_cast; rfl, below_drewN' HB.out _⟩) | (simp [intOf]; omega)
      | false =>
        have HNM := Lib.hid (fun W => refsname_any (k : Int) W)
        rw [sName_at hlt] at HNM
        by_cases hit : statesL.getD k e0 = y
        · have HE := Lib.hid (HHIT.out k hlt hit)
          have hq : (y.toList == y.toList) = true := beq_self_eq_true _
          rw [hit] at HNM
          clear hst hit
          go_wp2_with fail
          go_region_with (go_at_call 60; refine (HNM.out _).mono ?_; rintro e w4 ⟨rfl, b4⟩; have bb4 : B wr w4 := B_trans (by (repeat (first | assumption | exact B_refl _ | refine B_drewN ?_ _ | refine B_drew ?_ | refine B_alloc ?_ _ | refine B_setCell ?_ (by first | (simp; done) | (simp; omega)) _ | refine B_trans ?_ (by assumption)))) b4; have c4 : w4.cell? ⟨g, o + 1, none⟩ = some (.string y) := (bb4.cell (p := ⟨g, o + 1, none⟩) hgr).trans c1; clear b4)
          all_goals go_wp2_with fail
          all_goals go_roundw
          all_goals first | (exact ⟨k + 1, by omega, by rw [HE.out], by push_cast; rfl, HB.out.trans (bb4.mono HB.out.size)⟩) | (simp [intOf]; omega)
        · have HE := Lib.hid (HMISS.out k hst hit)
          have hq : ((statesL.getD k e0).toList == y.toList) = false := (Lib.bytes_beq_false_iff _ _).2 hit
          generalize statesL.getD k e0 = u at *
          clear hst hit
          go_wp2_with fail
          go_region_with (go_at_call 60; refine (HNM.out _).mono ?_; rintro e w4 ⟨rfl, b4⟩; have bb4 : B wr w4 := B_trans (by (repeat (first | assumption | exact B_refl _ | refine B_drewN ?_ _ | refine B_drew ?_ | refine B_alloc ?_ _ | refine B_setCell ?_ (by first | (simp; done) | (simp; omega)) _ | refine B_trans ?_ (by assumption)))) b4; have c4 : w4.cell? ⟨g, o + 1, none⟩ = some (.string y) := (bb4.cell (p := ⟨g, o + 1, none⟩) hgr).trans c1; clear b4)
          all_goals go_wp2_with fail
          all_goals go_roundw
          all_goals first | (exact ⟨k + 1, by omega, by rw [HE.out], by push_cast; rfl, HB.out.trans (bb4.mono HB.out.size)⟩) | (simp [intOf]; omega)
    · obtain rfl : k = 4 := by omega
      rw [HR4.out, show ((4 : Nat) : Int) = (4 : Int) from rfl]
      have hX4 : ∀ (j : Nat) (u : ByteArray), [x, y, p, q, z][j]? = some u → wr.cell? ⟨g, o + j, none⟩ = some (.string u) := fun j u hj => (hb.cell (p := ⟨g, o + j, none⟩) hg3).trans (HX.out j u hj)
      replace HX := Lib.hid hX4
      replace BB := Lib.hid (BB.out.trans (hb.mono BB.out.size))
      clear hb hX4 k1 c1 HB HUP HHIT HMISS HR0 hg3
      go_wp2_with fail
      rename World => w4
      go_loopw [7, 10, 11] (fun mv sl i w5 => ∃ (k : Nat) (c : List Int) (A' : Option Addr) (c' : Nat) (b : Bool), k ≤ 3 ∧ mv = .bool b ∧ sl = .slice A' k c' ∧ i = .int .i64 ((k : Int) + 2) ∧ c.length = k ∧ Hid (b = true → bn = true ∧ numsV ([p, q, z].take k) = some c) ∧ Hid (b = false → bn = false ∨ numsV ([p, q, z].take k) = none) ∧ Sl w5 3 1 (.slice A' k c') k (encI c) ∧ (∀ g, Value.ownBlock (.slice A' k c') = some g → w4.heap.size ≤ g) ∧ B w4 w5) (fun _ _ i _ => 5 - (intOf i).toNat)
      case atStart => exact ⟨0, [], none, 0, bn, by omega, rfl, rfl, rfl, rfl, Lib.hid (fun h => ⟨h, rfl⟩), Lib.hid (fun h => .inl h), Sl.nil _ _ _, fun g hg => by simp [Value.ownBlock] at hg, B_refl _⟩
      case round =>
        obtain ⟨k, c, A', c', b, hk, rfl, rfl, rfl, hcl, hyes, hno, hS, hO, hb⟩ := hrel
        have HS := Lib.hid hS
        have HW := Lib.hid hO
        have HB := Lib.hid hb
        have HC := Lib.hid hcl
        have BW := Lib.hid (BB.out.trans (hb.mono BB.out.size))
        have hX : ∀ (j : Nat) (u : ByteArray), [x, y, p, q, z][j]? = some u → wr.cell? ⟨g, o + j, none⟩ = some (.string u) := fun j u hj => (hb.cell (p := ⟨g, o + j, none⟩) hgr).trans (HX.out j u hj)
        by_cases hlt : k < 3
        · obtain ⟨v, hvv⟩ : ∃ v, [p, q, z][k]? = some v := ⟨_, List.getElem?_eq_getElem (by simpa using hlt)⟩
          have hcell : wr.cell? ⟨g, o + (k + 2), none⟩ = some (.string v) := hX (k + 2) v hvv
          have hvs : v.size ≤ 9999 := HXS.out v (by have := List.mem_of_getElem? hvv; simp at this ⊢; rcases this with h | h | h <;> simp [h])
          have HN := Lib.hid (fun W => refnumber_any v (by omega) W)
          unfold NumPost at HN
          have hk3 : (k : Int) + 2 < 5 := by omega
          have hk0 : (0 : Int) ≤ (k : Int) + 2 := by omega
          have hkt : ((k : Int) + 2).toNat = k + 2 := by omega
          have hkw : IntKind.i64.wrap ((k : Int) + 2 + 1) = (k : Int) + 2 + 1 := IntWalk.i64_in _ (by omega)
          have HVV := Lib.hid hvv
          have hl : k < [p, q, z].length := by simpa using hlt
          have hget : [p, q, z][k] = v := by rw [List.getElem?_eq_getElem hl] at hvv; injection hvv
          have htake : [p, q, z].take (k + 1) = [p, q, z].take k ++ [v] := by rw [List.take_succ_eq_append_getElem hl, hget]
          have HTK := Lib.hid htake
          clear hS hO hb hcl hX hvv hget htake hl
          go_wp2_with fail
          refine (HN.out _).mono ?_
          rintro e w5 ⟨num, ok, rfl, hok, hnum, b5⟩
          have HS5 := Lib.hid (HS.out.b b5)
          have HB5 := Lib.hid (HB.out.trans (b5.mono HB.out.size))
          have HPOST : Hid (((b && ok) = true → bn = true ∧ numsV ([p, q, z].take (k + 1)) = some (c ++ [num])) ∧ ((b && ok) = false → bn = false ∨ numsV ([p, q, z].take (k + 1)) = none)) := Lib.hid (by
            rw [HTK.out]
            cases hq : numV v with
            | none =>
              rw [hq] at hok
              have h1 : ok = false := hok
              subst h1
              refine ⟨fun h => by simp at h, fun _ => .inr ?_⟩
              exact numsV_none _ k v (by
                have hl : k < [p, q, z].length := by simpa using hlt
                have hll : ([p, q, z].take k).length = k := by rw [List.length_take]; omega
                rw [List.getElem?_append_right (by omega), hll, Nat.sub_self]
                rfl) hq
            | some vv =>
              rw [hq] at hok
              have h1 : ok = true := hok
              subst h1
              have h2 := hnum vv hq
              subst h2
              refine ⟨fun h => ?_, fun h => ?_⟩
              · obtain ⟨h3, h4⟩ := hyes.out (by simpa using h)
                exact ⟨h3, numsV_more h4 hq⟩
              · rcases hno.out (by simpa using h) with h3 | h3
                · exact .inl h3
                · refine .inr ?_
                  cases h5 : numsV ([p, q, z].take k ++ [v]) with
                  | none => rfl
                  | some d =>
                    exfalso
                    exact numsV_pre h3 h5)
          clear b5 hok hnum hyes hno
          cases b with
          | false =>
            go_wp2_with (at_builtin; refine wpList_append_sl _ rfl (.tmp 56) (.tmp 58) 49 rfl 3 i0 _ 1 8 Tryd.underlying49 hi hz0 hz1 hz2 rfl (by decide) (.slice A' k c') k (encI c) rfl ?hs ⟨_, 0, none⟩ 1 1 [.int .i64 num] rfl rfl ?hn ?h1 ?hm ?hb ?_)
            case hs => repeat (first | exact HS5.out | refine Sl.alloc ?_ _)
            case hn => exact news1 (by simp)
            case h1 => simp [Value.oneCell']
            case hm => unfold maxLen; omega
            case hb => omega
            intro A2 c2 w6 hs6 ho6 hl6
            have HS6 := Lib.hid hs6
            have HO6 := Lib.hid (own_later hl6 HW.out (B_size (B_alloc HB5.out _) : w4.heap.size ≤ _))
            have HB6 := Lib.hid (B_only (B_alloc HB5.out _) ho6 HW.out)
            clear hs6 ho6 hl6
            go_wp2_with fail
            go_roundw
            case rel => exact ⟨k + 1, c ++ [num], A2, c2, false, by omega, rfl, rfl, by push_cast; rfl, by rw [List.length_append, HC.out]; rfl, Lib.hid (fun h => by simp at h), Lib.hid (fun _ => HPOST.out.2 (by simp)), by rw [encI_append]; exact HS6.out, HO6.out, HB6.out⟩
            case measure => simp [intOf]; omega
          | true =>
            go_wp2_with (at_builtin; refine wpList_append_sl _ rfl (.tmp 56) (.tmp 58) 49 rfl 3 i0 _ 1 8 Tryd.underlying49 hi hz0 hz1 hz2 rfl (by decide) (.slice A' k c') k (encI c) rfl ?hs ⟨_, 0, none⟩ 1 1 [.int .i64 num] rfl rfl ?hn ?h1 ?hm ?hb ?_)
            case hs => repeat (first | exact HS5.out | refine Sl.alloc ?_ _)
            case hn => exact news1 (by simp)
            case h1 => simp [Value.oneCell']
            case hm => unfold maxLen; omega
            case hb => omega
            intro A2 c2 w6 hs6 ho6 hl6
            have HS6 := Lib.hid hs6
            have HO6 := Lib.hid (own_later hl6 HW.out (B_size (B_alloc HB5.out _) : w4.heap.size ≤ _))
            have HB6 := Lib.hid (B_only (B_alloc HB5.out _) ho6 HW.out)
            clear hs6 ho6 hl6
            go_wp2_with fail
            go_roundw
            case rel => exact ⟨k + 1, c ++ [num], A2, c2, ok, by omega, rfl, rfl, by push_cast; rfl, by rw [List.length_append, HC.out]; rfl, Lib.hid (fun h => HPOST.out.1 (by simpa using h)), Lib.hid (fun h => HPOST.out.2 (by simpa using h)), by rw [encI_append]; exact HS6.out, HO6.out, HB6.out⟩
            case measure => simp [intOf]; omega
        · obtain rfl : k = 3 := by omega
          have k0' := hX 0 x rfl
          have k1' := hX 1 y rfl
          simp at k0'
          clear hS hO hb hcl hX
          cases b with
          | false =>
            have hR : R = none := HNO.out (hno.out rfl)
            have HR := Lib.hid hR
            clear hR hyes hno
            go_wp2_with fail
            refine bodyPost_ret (results_four Tryd.results39 _ _) rfl ?_
            show PartsPost _ _ _ _
            rw [HR.out]
            exact ⟨BW.out, rfl⟩
          | true =>
            cases sb with
            | false =>
              have HR := Lib.hid (HST.out rfl)
              clear hyes hno
              go_wp2_with fail
              refine bodyPost_ret (results_four Tryd.results39 _ _) rfl ?_
              show PartsPost _ _ _ _
              rw [HR.out]
              exact ⟨BW.out, rfl⟩
            | true =>
              obtain ⟨hbn, hnv⟩ := hyes.out rfl
              have hR := HYES.out hbn rfl
              rw [show [p, q, z].take 3 = [p, q, z] from rfl] at hnv
              rw [hnv] at hR
              have HR := Lib.hid (show R = some (x, y, c) from hR)
              clear hyes hno hR hnv hbn HYES HNO HST
              go_wp2_with fail
              go_region_with (fail)
              all_goals go_wp2_with fail
              all_goals refine bodyPost_ret (results_four Tryd.results39 _ _) rfl ?_
              all_goals show PartsPost _ _ _ _
              all_goals rw [HR.out]
              all_goals first | exact parts_done HS.out HC.out HW.out BB.out.size BW.out | exact parts_done HS.out.drew HC.out HW.out BB.out.size BW.out.drew | exact parts_done (HS.out.drewN _) HC.out HW.out BB.out.size (below_drewN' BW.out _)
theorem refparts_any (s : ByteArray) (hs : s.size ≤ 9999) (w : World) : Calls Tryd.prog 39 #[.string s] w (PartsPost (partsV s) w) := by
  obtain ⟨x, r, hl⟩ := cutV_ne 32 s
  unfold partsV
  rw [hl]
  by_cases h5 : (x :: r).length = 5
  · obtain ⟨x', y, p, q, z, e⟩ := fives h5
    injection e with e1 e2
    subst e1 e2
    have hxs : ∀ u ∈ [x, y, p, q, z], u.size ≤ 9999 := fun u hu => by
      have := cutV_mem (c := 32) (s := s) (x := u) (by rw [hl]; exact hu)
      omega
    exact refparts_five hs hl hxs w
  · rw [partsL_len h5]
    exact refparts_len hs hl rfl h5 w
end Go.Proofs.YtogomkkglcddmaaDoor.Ad
