/- admin.Parts: the parts of any text. -/
import Derived.Test.YtogomkkglcddmaaDoorAdS
namespace Go.Proofs.YtogomkkglcddmaaDoor.Ad
open Go.RowKit Go.Proofs.YtogomkkglcddmaaDoor Go.Proofs.YtogomkkglcddmaaDoor.Nm Go.Proofs.YtogomkkglcddmaaDoor.Cf
open Builtin in
theorem max_is (ats : Array TypeId) (ty : TypeId) (x y : Int) (W : World) : (Builtin.max_ ats ty #[.int .i64 x, .int .i64 y]).run Tryd.prog W = .ok (.int .i64 (if x < y then y else x)) W := by
  simp only [Builtin.max_, List.foldlM_cons, List.foldlM_nil, Builtin.max2]
  rfl
theorem state_index (g c : Nat) (x : ByteArray) (w : World) (hb : Blk w g 9 (encS statesL).toArray) :
    Calls Tryd.prog 45 #[.slice (some ⟨g, 0, none⟩) 4 c, .string x] w fun e w' => e = .returned (.int .i64 (Lib.idxOfS statesL x)) ∧ w' = w := by
  refine Tryd.slices_Index_string g 0 4 c statesL x w (by decide) (by decide) fun j hj => ?_
  rw [Nat.zero_add, hb.cell j]
  match j, hj with
  | 0, _ | 1, _ | 2, _ | 3, _ => rfl
theorem of_any (x : ByteArray) (w : World) :
    Calls Tryd.prog 61 #[.string x] w fun e w' => ∃ n, e = .returned (.tuple #[.int .i64 n, .bool (decide (0 ≤ Lib.idxOfS statesL x))]) ∧ Below w.heap.size w w' := by
  have HI := Lib.hid (fun g c W => state_index g c x W)
  generalize Lib.idxOfS statesL x = v at *
  have hmx := fun ats ty W => max_is ats ty v 0 W
  generalize (if v < 0 then (0 : Int) else v) = z at hmx
  go_enter Tryd.func61, Tryd.ntmps61
  go_wp2_with fail
  refine (snames_any _).mono ?_
  rintro e w1 ⟨g, cc, rfl, hcc, hg, hb, b1⟩
  have HB := Lib.hid hb
  clear hb
  go_wp2_with fail
  refine (HI.out g cc _ HB.out).mono ?_
  rintro e w2 ⟨rfl, rfl⟩
  go_wp2_with fail
  go_ret2
  exact ⟨_, rfl, b1⟩
theorem varsB {w : World} (h : Vars w) : VarsB w := ⟨h.most, h.tab⟩
def PartsPost (r : Option (ByteArray × ByteArray × List Int)) (w : World) (e : Ending) (w' : World) : Prop :=
  Below w.heap.size w w' ∧ match r with
    | none => e = .returned (.tuple #[.string ⟨#[]⟩, .string ⟨#[]⟩, .slice none 0 0, .bool false])
    | some (x, y, d) => ∃ A cc, e = .returned (.tuple #[.string x, .string y, .slice A 3 cc, .bool true]) ∧ 3 ≤ cc ∧ NumsAt w' A d ∧ (∀ ad, A = some ad → w.heap.size ≤ ad.block)
theorem partsL_len {l : List ByteArray} (h : l.length ≠ 5) : partsL l = none := by
  unfold partsL
  rw [if_neg (fun e => h e.1)]
theorem partsL_name {l : List ByteArray} (h : nameB (l.getD 0 e0) = false) : partsL l = none := by
  unfold partsL
  rw [if_neg (fun e => by rw [h] at e; exact Bool.false_ne_true e.2.1)]
theorem partsL_state {l : List ByteArray} (h : stateB (l.getD 1 e0) = false) : partsL l = none := by
  unfold partsL
  rw [if_neg (fun e => by rw [h] at e; exact Bool.false_ne_true e.2.2)]
theorem partsL_five {x y p q z : ByteArray} (h1 : nameB x = true) (h2 : stateB y = true) : partsL [x, y, p, q, z] = (numsV [p, q, z]).map fun c => (x, y, c) := by
  unfold partsL
  rw [if_pos ⟨rfl, h1, h2⟩]
  rfl
theorem numsV_more {l : List ByteArray} {c : List Int} {x : ByteArray} {v : Int} (h : numsV l = some c) (hx : numV x = some v) : numsV (l ++ [x]) = some (c ++ [v]) := by
  have h1 := numsV_len h
  refine numsV_some _ _ (by rw [List.length_append, List.length_append, h1]; rfl) fun j a b ha hb => ?_
  rcases Nat.lt_or_ge j l.length with hj | hj
  · rw [List.getElem?_append_left hj] at ha
    rw [List.getElem?_append_left (by omega)] at hb
    obtain ⟨e1, e2⟩ := numsV_text h
    have hbb : digs c = l := e1
    have : (digs c)[j]? = some (bs (Lib.itoa b)) := by unfold digs; rw [List.getElem?_map, hb]; rfl
    rw [hbb, ha] at this
    injection this with this
    rw [this]
    have hm := e2 b (List.mem_of_getElem? hb)
    exact numV_digs hm.1 hm.2
  · have hj2 : j = l.length := by
      rcases Nat.lt_or_ge l.length j with h2 | h2
      · rw [List.getElem?_eq_none (by rw [List.length_append]; simp; omega)] at ha
        cases ha
      · omega
    subst hj2
    rw [List.getElem?_append_right (Nat.le_refl _), Nat.sub_self] at ha
    rw [List.getElem?_append_right (by omega), show l.length - c.length = 0 by omega] at hb
    cases ha
    cases hb
    exact hx
theorem fives {l : List ByteArray} (h : l.length = 5) : ∃ x y p q z, l = [x, y, p, q, z] := by
  match l, h with
  | [x, y, p, q, z], _ => exact ⟨x, y, p, q, z, rfl⟩
theorem results_four {P : Program} {fn : Func} {a b c d : Tmp} (h : fn.results = #[.tmp a, .tmp b, .tmp c, .tmp d]) (tmps : Array Value) (w : World) :
    (results fn tmps).run P w = .ok (.tuple #[tmps.getD a undef, tmps.getD b undef, tmps.getD c undef, tmps.getD d undef]) w := by
  simp [results, h]
theorem parts_done {w w4 wr : World} {x y : ByteArray} {A' : Option Addr} {c' : Nat} {c : List Int} (hS : Sl wr 3 1 (.slice A' 3 c') 3 (encI c)) (hc : c.length = 3)
    (hO : ∀ g, Value.ownBlock (.slice A' 3 c') = some g → w4.heap.size ≤ g) (h4 : w.heap.size ≤ w4.heap.size) (hB : Below w.heap.size w wr) :
    PartsPost (some (x, y, c)) w (.returned (.tuple #[.string x, .string y, .slice A' 3 c', .bool true])) wr := by
  obtain ⟨A3, c3, e, h1, _⟩ := hS.slice
  cases e
  refine ⟨hB, _, _, rfl, h1, NumsAt.of_Sl hS hc, fun ad h => ?_⟩
  subst h
  exact Nat.le_trans h4 (hO _ rfl)
set_option maxRecDepth 100000 in
set_option maxHeartbeats 2000000 in
theorem parts_len {s x : ByteArray} {r : List ByteArray} {n : Nat} (hs : s.size ≤ 9999) (hl : cutV 32 s = x :: r) (hn : r.length + 1 = n) (h5 : n ≠ 5) (w : World) (hv : Vars w) :
    Calls Tryd.prog 38 #[.string s] w (PartsPost none w) := by
  unfold PartsPost
  have HS := Lib.hid (split_cons hl hn hs w (varsB hv))
  have hne : ((n : Int) != 5) = true := by rw [bne_iff_ne]; omega
  clear hl
  go_enter Tryd.func38, Tryd.ntmps38
  go_wp2_with fail
  refine HS.out.mono ?_
  rintro e w2 ⟨g, o, cc, rfl, hcap, hgn, hlt, hx0, hx1, b2⟩
  go_wp2_with fail
  refine bodyPost_ret (results_four Tryd.results38 _ _) rfl ?_
  exact ⟨b2, rfl⟩
set_option maxRecDepth 100000 in
set_option maxHeartbeats 2000000 in
theorem parts_name {s x y p q z : ByteArray} (hs : s.size ≤ 9999) (hl : cutV 32 s = [x, y, p, q, z]) (hxs : ∀ u ∈ [x, y, p, q, z], u.size ≤ 9999) (hnm : nameB x = false) (w : World) (hv : Vars w) :
    Calls Tryd.prog 38 #[.string s] w (PartsPost none w) := by
  unfold PartsPost
  have HS := Lib.hid (split_cons (n := 5) hl rfl hs w (varsB hv))
  have HN := Lib.hid (fun W => name_all x W)
  rw [hnm] at HN
  have HXS := Lib.hid hxs
  clear hl hxs
  go_enter Tryd.func38, Tryd.ntmps38
  go_wp2_with fail
  refine HS.out.mono ?_
  rintro e w2 ⟨g, o, cc, rfl, hcap, hgn, hlt, hx0, hx1, b2⟩
  have hx1' := hx1 1 y rfl
  go_wp2_with fail
  refine (HN.out _).mono ?_
  rintro e w3 ⟨rfl, b3⟩
  have BB := Lib.hid (b2.trans (b3.mono b2.size))
  have hg3 : g < w3.heap.size := Nat.lt_of_lt_of_le hlt b3.size
  have h3 : ∀ (j : Nat) (u : ByteArray), [x, y, p, q, z][j]? = some u → w3.cell? ⟨g, o + j, none⟩ = some (.string u) := fun j u hj => (b3.cell (p := ⟨g, o + j, none⟩) hlt).trans (hx1 j u hj)
  have HX := Lib.hid h3
  have k0 := h3 0 x rfl
  have k1 := h3 1 y rfl
  simp at k0
  clear b2 b3 h3 hx0 hx1 hx1' hlt HS HN
  go_wp2_with fail
  refine bodyPost_ret (results_four Tryd.results38 _ _) rfl ?_
  exact ⟨BB.out, rfl⟩
set_option maxRecDepth 100000 in
set_option maxHeartbeats 2000000 in
theorem parts_state {s x y p q z : ByteArray} (hs : s.size ≤ 9999) (hl : cutV 32 s = [x, y, p, q, z]) (hxs : ∀ u ∈ [x, y, p, q, z], u.size ≤ 9999) (hnm : nameB x = true) (hof : decide (0 ≤ Lib.idxOfS statesL y) = false) (hodd : (y.toList == [63]) = false) (w : World) (hv : Vars w) :
    Calls Tryd.prog 38 #[.string s] w (PartsPost none w) := by
  unfold PartsPost
  have HO := Lib.hid (fun W => of_any y W)
  rw [hof] at HO
  have HS := Lib.hid (split_cons (n := 5) hl rfl hs w (varsB hv))
  have HN := Lib.hid (fun W => name_all x W)
  rw [hnm] at HN
  have HXS := Lib.hid hxs
  clear hl hxs
  go_enter Tryd.func38, Tryd.ntmps38
  go_wp2_with fail
  refine HS.out.mono ?_
  rintro e w2 ⟨g, o, cc, rfl, hcap, hgn, hlt, hx0, hx1, b2⟩
  have hx1' := hx1 1 y rfl
  go_wp2_with fail
  refine (HN.out _).mono ?_
  rintro e w3 ⟨rfl, b3⟩
  have BB := Lib.hid (b2.trans (b3.mono b2.size))
  have hg3 : g < w3.heap.size := Nat.lt_of_lt_of_le hlt b3.size
  have h3 : ∀ (j : Nat) (u : ByteArray), [x, y, p, q, z][j]? = some u → w3.cell? ⟨g, o + j, none⟩ = some (.string u) := fun j u hj => (b3.cell (p := ⟨g, o + j, none⟩) hlt).trans (hx1 j u hj)
  have HX := Lib.hid h3
  have k0 := h3 0 x rfl
  have k1 := h3 1 y rfl
  simp at k0
  clear b2 b3 h3 hx0 hx1 hx1' hlt HS HN
  go_wp2_with fail
  refine (HO.out _).mono ?_
  rintro e w4 ⟨nn, rfl, b4⟩
  have k2 : w4.cell? ⟨g, o + 1, none⟩ = some (.string y) := (b4.cell (p := ⟨g, o + 1, none⟩) hg3).trans k1
  replace BB := Lib.hid (BB.out.trans (b4.mono BB.out.size))
  have h4 : ∀ (j : Nat) (u : ByteArray), [x, y, p, q, z][j]? = some u → w4.cell? ⟨g, o + j, none⟩ = some (.string u) := fun j u hj => (b4.cell (p := ⟨g, o + j, none⟩) hg3).trans (HX.out j u hj)
  replace HX := Lib.hid h4
  have hg4 : g < w4.heap.size := Nat.lt_of_lt_of_le hg3 b4.size
  clear b4 h4
  go_wp2_with fail
  refine bodyPost_ret (results_four Tryd.results38 _ _) rfl ?_
  exact ⟨BB.out, rfl⟩
set_option maxRecDepth 100000 in
set_option maxHeartbeats 2000000 in
theorem parts_five {s x y p q z : ByteArray} (hs : s.size ≤ 9999) (hl : cutV 32 s = [x, y, p, q, z]) (hxs : ∀ u ∈ [x, y, p, q, z], u.size ≤ 9999) (hnm : nameB x = true) (bo : Bool) (hof : decide (0 ≤ Lib.idxOfS statesL y) = bo) (hodd : bo = false → (y.toList == [63]) = true) (w : World) (hv : Vars w) :
    Calls Tryd.prog 38 #[.string s] w (PartsPost ((numsV [p, q, z]).map fun c => (x, y, c)) w) := by
  have HO := Lib.hid (fun W => of_any y W)
  rw [hof] at HO
  have HV := Lib.hid hv
  obtain ⟨i0, hi, hz0, hz1, hz2⟩ := info_parts int_info
  have HS := Lib.hid (split_cons (n := 5) hl rfl hs w (varsB hv))
  have HN := Lib.hid (fun W => name_all x W)
  rw [hnm] at HN
  have HXS := Lib.hid hxs
  clear hl hxs
  go_enter Tryd.func38, Tryd.ntmps38
  go_wp2_with fail
  refine HS.out.mono ?_
  rintro e w2 ⟨g, o, cc, rfl, hcap, hgn, hlt, hx0, hx1, b2⟩
  have hx1' := hx1 1 y rfl
  go_wp2_with fail
  refine (HN.out _).mono ?_
  rintro e w3 ⟨rfl, b3⟩
  have BB := Lib.hid (b2.trans (b3.mono b2.size))
  have hg3 : g < w3.heap.size := Nat.lt_of_lt_of_le hlt b3.size
  have h3 : ∀ (j : Nat) (u : ByteArray), [x, y, p, q, z][j]? = some u → w3.cell? ⟨g, o + j, none⟩ = some (.string u) := fun j u hj => (b3.cell (p := ⟨g, o + j, none⟩) hlt).trans (hx1 j u hj)
  have HX := Lib.hid h3
  have k0 := h3 0 x rfl
  have k1 := h3 1 y rfl
  simp at k0
  clear b2 b3 h3 hx0 hx1 hx1' hlt HS HN
  go_wp2_with fail
  refine (HO.out _).mono ?_
  rintro e w4 ⟨nn, rfl, b4⟩
  have k2 : w4.cell? ⟨g, o + 1, none⟩ = some (.string y) := (b4.cell (p := ⟨g, o + 1, none⟩) hg3).trans k1
  replace BB := Lib.hid (BB.out.trans (b4.mono BB.out.size))
  have h4 : ∀ (j : Nat) (u : ByteArray), [x, y, p, q, z][j]? = some u → w4.cell? ⟨g, o + j, none⟩ = some (.string u) := fun j u hj => (b4.cell (p := ⟨g, o + j, none⟩) hg3).trans (HX.out j u hj)
  replace HX := Lib.hid h4
  have hg4 : g < w4.heap.size := Nat.lt_of_lt_of_le hg3 b4.size
  clear b4 h4
  have HO4 : (bo = true ∨ (bo = false ∧ (y.toList == [63]) = true)) := by cases bo; exact .inr ⟨rfl, hodd rfl⟩; exact .inl rfl
  clear hodd hof
  have hcc : (5 : Int) ≤ cc := by omega
  have hcc2 : (2 : Int) ≤ cc := by omega
  have hcc3 : ¬ cc = 2 := by omega
  rcases HO4 with rfl | ⟨rfl, hodd⟩
  all_goals
    go_wp2_with fail
    go_loopw [9, 44] (fun sl i wr => ∃ (k : Nat) (c : List Int) (A' : Option Addr) (c' : Nat), k ≤ 3 ∧ sl = .slice A' k c' ∧ i = .int .i64 k ∧ c.length = k ∧ numsV ([p, q, z].take k) = some c ∧ Sl wr 3 1 (.slice A' k c') k (encI c) ∧ (∀ g, Value.ownBlock (.slice A' k c') = some g → w4.heap.size ≤ g) ∧ B w4 wr) (fun _ i _ => 3 - (intOf i).toNat)
    case atStart => exact ⟨0, [], none, 0, by omega, rfl, rfl, rfl, rfl, Sl.nil _ _ _, fun g hg => by simp [Value.ownBlock] at hg, B_refl _⟩
    case round =>
      obtain ⟨k, c, A', c', hk, rfl, rfl, hcl, hnv, hS, hO, hb⟩ := hrel
      have HS := Lib.hid hS
      have HW := Lib.hid hO
      have HB := Lib.hid hb
      have HC := Lib.hid hcl
      have HNV := Lib.hid hnv
      have BW := Lib.hid (BB.out.trans (hb.mono BB.out.size))
      have hX : ∀ (j : Nat) (u : ByteArray), [x, y, p, q, z][j]? = some u → wr.cell? ⟨g, o + j, none⟩ = some (.string u) := fun j u hj => (hb.cell (p := ⟨g, o + j, none⟩) hg4).trans (HX.out j u hj)
      by_cases hlt : k < 3
      · obtain ⟨v, hvv⟩ : ∃ v, [p, q, z][k]? = some v := ⟨_, List.getElem?_eq_getElem (by simpa using hlt)⟩
        have hcell : wr.cell? ⟨g, o + 2 + k, none⟩ = some (.string v) := by rw [Nat.add_assoc]; exact hX (2 + k) v (by rw [Nat.add_comm]; exact hvv)
        have hvs : v.size ≤ 9999 := HXS.out v (by have := List.mem_of_getElem? hvv; simp at this ⊢; rcases this with h | h | h <;> simp [h])
        have HN := Lib.hid (fun W h => adnumber_any v (by omega) W h)
        unfold NumPost at HN
        have hk3 : (k : Int) < 3 := by omega
        have hk0 : (0 : Int) ≤ (k : Int) := by omega
        have HVV := Lib.hid hvv
        clear hS hO hb hcl hnv hX hvv
        go_wp2_with fail
        refine (HN.out _ (HV.out.below BW.out)).mono ?_
        rintro e w5 ⟨num, ok, rfl, hok, hnum, b5⟩
        cases hq : numV v with
        | none =>
          rw [hq] at hok
          replace hok : ok = false := hok
          subst hok
          have hnone : numsV [p, q, z] = none := numsV_none _ k v HVV.out hq
          have HNONE := Lib.hid hnone
          have B5 := Lib.hid (BW.out.trans (b5.mono BW.out.size))
          clear b5 hnum hq hnone
          go_wp2_with fail
          refine bodyPost_ret (results_four Tryd.results38 _ _) rfl ?_
          show PartsPost _ _ _ _
          rw [HNONE.out]
          exact ⟨B5.out, rfl⟩
        | some vv =>
          rw [hq] at hok
          replace hok : ok = true := hok
          subst hok
          have hnn := hnum vv hq
          subst hnn
          have HS5 := Lib.hid (HS.out.b b5)
          have HB5 := Lib.hid (HB.out.trans (b5.mono HB.out.size))
          have HMO := Lib.hid (numsV_more HNV.out hq)
          clear b5 hnum hq
          go_wp2_with (at_builtin; refine wpList_append_sl _ rfl (.tmp 55) (.tmp 57) 49 rfl 3 i0 _ 1 8 Tryd.underlying49 hi hz0 hz1 hz2 rfl (by decide) (.slice A' k c') k (encI c) rfl ?hs ⟨_, 0, none⟩ 1 1 [.int .i64 num] rfl rfl ?hn ?h1 ?hm ?hb ?_)
          case hs => repeat (first | exact HS5.out | refine Sl.alloc ?_ _)
          case hn => exact news1 (by simp)
          case h1 => simp [Value.oneCell']
          case hm => unfold maxLen; omega
          case hb => omega
          intro A2 c2 w6 hs6 ho6 hl6
          have HS6 := Lib.hid hs6
          have HO6 := Lib.hid (own_later hl6 HW.out (B_size (B_alloc HB5.out _) : w4.heap.size ≤ _))
          have HB6 := Lib.hid (B_only (B_alloc HB5.out _) ho6 HW.out)
          clear hs6 ho6 hl6
          go_wp2_with fail
          go_roundw
          case rel =>
            refine ⟨k + 1, c ++ [num], A2, c2, by omega, rfl, by push_cast; rfl, by rw [List.length_append, HC.out]; rfl, ?_, by rw [encI_append]; exact HS6.out, HO6.out, HB6.out⟩
            have hl : k < [p, q, z].length := by simpa using hlt
            have hget : [p, q, z][k] = v := by have h := HVV.out; rw [List.getElem?_eq_getElem hl] at h; injection h
            rw [List.take_succ_eq_append_getElem hl, hget]
            exact HMO.out
          case measure => simp [intOf]; omega
      · obtain rfl : k = 3 := by omega
        have hall : numsV [p, q, z] = some c := hnv
        have HALL := Lib.hid hall
        have k0' := hX 0 x rfl
        have k1' := hX 1 y rfl
        simp at k0'
        clear hS hO hb hcl hnv hX hall
        go_wp2_with fail
        go_region_with (fail)
        all_goals go_wp2_with fail
        all_goals refine bodyPost_ret (results_four Tryd.results38 _ _) rfl ?_
        all_goals show PartsPost _ _ _ _
        all_goals rw [HALL.out]
        all_goals first | exact parts_done HS.out HC.out HW.out BB.out.size BW.out | exact parts_done HS.out.drew HC.out HW.out BB.out.size BW.out.drew | exact parts_done (HS.out.drewN _) HC.out HW.out BB.out.size (below_drewN' BW.out _)
theorem parts_any (s : ByteArray) (hs : s.size ≤ 9999) (w : World) (hv : Vars w) : Calls Tryd.prog 38 #[.string s] w (PartsPost (partsV s) w) := by
  obtain ⟨x, r, hl⟩ := cutV_ne 32 s
  unfold partsV
  rw [hl]
  by_cases h5 : (x :: r).length = 5
  · obtain ⟨x', y, p, q, z, e⟩ := fives h5
    injection e with e1 e2
    subst e1 e2
    have hxs : ∀ u ∈ [x, y, p, q, z], u.size ≤ 9999 := fun u hu => by
      have := cutV_mem (c := 32) (s := s) (x := u) (by rw [hl]; exact hu)
      omega
    cases hn : nameB x with
    | false => rw [partsL_name (l := [x, y, p, q, z]) hn]; exact parts_name hs hl hxs hn w hv
    | true =>
      cases hst : stateB y with
      | false =>
        rw [partsL_state (l := [x, y, p, q, z]) hst]
        unfold stateB at hst
        rw [Bool.or_eq_false_iff, decide_eq_false_iff_not, decide_eq_false_iff_not] at hst
        refine parts_state hs hl hxs hn (decide_eq_false hst.1) ?_ w hv
        rw [ByteArray.toList_eq]
        exact beq_eq_false_iff_ne.2 fun e => hst.2 (ByteArray.ext (Array.toList_inj.1 e))
      | true =>
        rw [partsL_five hn hst]
        refine parts_five hs hl hxs hn _ rfl (fun hb => ?_) w hv
        unfold stateB at hst
        rw [hb, Bool.false_or, decide_eq_true_eq] at hst
        rw [hst, ByteArray.toList_eq]
        rfl
  · rw [partsL_len h5]
    exact parts_len hs hl rfl h5 w hv
end Go.Proofs.YtogomkkglcddmaaDoor.Ad
