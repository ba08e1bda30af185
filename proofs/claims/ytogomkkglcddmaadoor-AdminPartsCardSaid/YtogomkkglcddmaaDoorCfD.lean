/- config.number, config.Text. -/
import Derived.Test.YtogomkkglcddmaaDoorCfC
import Derived.Lib.AtoiAllCases
namespace Go.Proofs.YtogomkkglcddmaaDoor.Cf
open Go.RowKit Go.Proofs.YtogomkkglcddmaaDoor Go.Proofs.YtogomkkglcddmaaDoor.Nm

theorem wf_of {v : Int} (h : -9223372036854775808 ≤ v ∧ v ≤ 9223372036854775807) : (Lit.int .i64 v).wf = true := by
  simpa [Lit.wf, IntKind.min, IntKind.max, IntKind.signed, IntKind.bits] using h
theorem wf_to {v : Int} (h : (Lit.int .i64 v).wf = true) : -9223372036854775808 ≤ v ∧ v ≤ 9223372036854775807 := by
  simpa [Lit.wf, IntKind.min, IntKind.max, IntKind.signed, IntKind.bits] using h
/-- What a text is as a number: the number, if it is one. -/
def numV (s : ByteArray) : Option Int := numOf s.data.toList
/-- What is answered: a number, and whether it is one. -/
def NumPost (s : ByteArray) (w : World) (e : Ending) (w' : World) : Prop := ∃ n ok, e = .returned (.tuple #[.int .i64 n, .bool ok]) ∧ ok = (numV s).isSome ∧ (∀ v, numV s = some v → n = v) ∧ Below w.heap.size w w'
theorem numNo {s : ByteArray} {w w' : World} (hn : numV s = none) (n : Int) (hb : Below w.heap.size w w') : NumPost s w (.returned (.tuple #[.int .i64 n, .bool false])) w' :=
  ⟨n, false, rfl, by rw [hn]; rfl, fun x hx => (by rw [hn] at hx; cases hx), hb⟩
theorem numYes {s : ByteArray} {w w' : World} {v : Int} (hn : numV s = some v) (hb : Below w.heap.size w w') : NumPost s w (.returned (.tuple #[.int .i64 v, .bool true])) w' :=
  ⟨v, true, rfl, by rw [hn]; rfl, fun x hx => by rw [hn] at hx; exact Option.some.inj hx, hb⟩
theorem str_eq {a b : ByteArray} : (a.toList == b.toList) = decide (a.data.toList = b.data.toList) := by
  rw [ByteArray.toList_eq, ByteArray.toList_eq]
  by_cases h : a.data.toList = b.data.toList
  · rw [h]; simp
  · rw [decide_eq_false h]; exact beq_eq_false_iff_ne.2 h
theorem number_any (s : ByteArray) (hs : s.size ≤ 99999) (w : World) (hv : Vars w) :
    Calls Tryd.prog 55 #[.string s] w (NumPost s w) := by
  have HV := Lib.hid hv
  have HA := Lib.hid (atoi_any s hs w hv)
  have hB0 := Lib.hid (Below.refl w.heap.size w)
  clear hv
  go_enter Tryd.func55, Tryd.ntmps55
  go_wp2_with fail
  refine HA.out.mono ?_
  rintro e w1 ⟨he, b1⟩
  have B1 := Lib.hid b1
  have HV1 := Lib.hid (HV.out.below b1)
  clear b1 HA
  have HN : Hid (∀ v, Lib.atoiAll s.data.toList = .ok v → numV s = if Lib.itoa v = s.data.toList ∧ (tailOf s.data.toList).length ≤ 9 then some v else none) := Lib.hid fun v h => by
    unfold numV numOf
    rw [h]
  have HN2 : Hid ((∀ x, Lib.atoiAll s.data.toList ≠ .ok x) → numV s = none) := Lib.hid fun hx => by
    cases hq : numV s with
    | none => rfl
    | some v => exact absurd (numOf_some hq).2.2 (hx v)
  rcases he with ⟨v, hat, rfl⟩ | ⟨hat, n, N, rfl⟩
  · have hwf := wf_of (Lib.atoiAll_bounds hat)
    have hn := HN.out v hat
    have HI := Lib.hid (itoa_any v hwf w1 HV1.out)
    clear HN HN2
    go_wp2_with fail
    refine HI.out.mono ?_
    rintro e w2 ⟨rfl, b2⟩
    have B2 := Lib.hid (B1.out.trans (b2.mono B1.out.size))
    clear b2 HI
    by_cases h1 : Lib.itoa v = s.data.toList
    · have t1 : ((bs (Lib.itoa v)).toList == s.toList) = true := by rw [str_eq, bs_list]; exact decide_eq_true h1
      have HT := Lib.hid (Tryd.strings_TrimPrefix s ⟨#[45]⟩ w2)
      have htl : Lib.trimPrefix s.data.toList [45] = tailOf s.data.toList := tail_trim _
      go_wp2_with fail
      refine HT.out.mono ?_
      rintro e w3 ⟨rfl, rfl⟩
      rw [htl]
      have hsz : (⟨(tailOf s.data.toList).toArray⟩ : ByteArray).size = (tailOf s.data.toList).length := bs_size _
      generalize (⟨(tailOf s.data.toList).toArray⟩ : ByteArray) = tl at hsz ⊢
      by_cases h2 : (tailOf s.data.toList).length ≤ 9
      · rw [if_pos ⟨h1, h2⟩] at hn
        have t2 : decide (((tailOf s.data.toList).length : Int) ≤ 9) = true := decide_eq_true (by omega)
        go_wp2_with fail
        go_ret2
        exact numYes hn B2.out
      · rw [if_neg (fun e => h2 e.2)] at hn
        have t2 : decide (((tailOf s.data.toList).length : Int) ≤ 9) = false := decide_eq_false (by omega)
        go_wp2_with fail
        go_ret2
        exact numNo hn _ B2.out
    · have t1 : ((bs (Lib.itoa v)).toList == s.toList) = false := by rw [str_eq, bs_list]; exact decide_eq_false h1
      rw [if_neg (fun e => h1 e.1)] at hn
      go_wp2_with fail
      go_ret2
      exact numNo hn _ B2.out
  · have hn := HN2.out hat
    clear HN HN2 hat
    go_wp2_with fail
    go_ret2
    exact numNo hn _ B1.out

/-- A config's text. -/
def digs (c : List Int) : List ByteArray := c.map fun x => bs (Lib.itoa x)
def textV (c : List Int) : ByteArray := joinV (digs c)
theorem itoa_len {x : Int} (h : (Lit.int .i64 x).wf = true) : (Lib.itoa x).length ≤ 100 := by
  have h2 := wf_to h
  have hx : x.natAbs < 10 ^ 20 := by omega
  have key : ∀ (k u : Nat), u < 10 ^ (k + 1) → Lib.nDigits u ≤ k + 1 := by
    intro k
    induction k with
    | zero => intro u hu; rw [Lib.nDigits_small (by simpa using hu)]; exact Nat.le_refl _
    | succ k ih =>
      intro u hu
      by_cases h : u < 10
      · rw [Lib.nDigits_small h]; omega
      · rw [Lib.nDigits_big h]
        have := ih (u / 10) (by rw [Nat.pow_succ] at hu; omega)
        omega
  have h3 := key 19 x.natAbs hx
  unfold Lib.itoa
  split
  · rw [List.length_cons, Lib.decDigits_length]; omega
  · rename_i hn
    have e : x.toNat = x.natAbs := by omega
    rw [e, Lib.decDigits_length]; omega
theorem join_le {sep : List UInt8} (hs : sep.length ≤ 1) {B : Nat} : ∀ {L : List (List UInt8)}, (∀ x ∈ L, x.length ≤ B) → (Lib.join L sep).length ≤ L.length * (B + 1)
  | [], _ => by simp [Lib.join_nil]
  | [y], h => by
    rw [Lib.join_one]
    have := h y (by simp)
    simp only [List.length_singleton]
    omega
  | y :: z :: r, h => by
    have ih := join_le hs (L := z :: r) (fun x hx => h x (by simp [hx]))
    have := h y (by simp)
    rw [Sp.join_two, List.length_append, List.length_append, List.length_cons, Nat.add_mul]
    omega
theorem digs_join {c : List Int} (hw : ∀ x ∈ c, (Lit.int .i64 x).wf = true) : (Lib.join ((digs c).map (·.data.toList)) [32]).length ≤ c.length * 101 := by
  have := join_le (sep := [32]) (by decide) (B := 100) (L := (digs c).map (·.data.toList)) (fun x hx => by
    obtain ⟨s, hs, rfl⟩ := List.mem_map.1 hx
    obtain ⟨y, hy, rfl⟩ := List.mem_map.1 hs
    rw [bs_list]
    exact itoa_len (hw y hy))
  rw [List.length_map] at this
  unfold digs at this
  rw [List.length_map] at this
  exact this
theorem digs_take_succ {c : List Int} {k : Nat} {x : Int} (h : c[k]? = some x) : digs (c.take (k + 1)) = digs (c.take k) ++ [bs (Lib.itoa x)] := by
  rw [List.take_add_one, h]
  simp [digs]
set_option maxRecDepth 100000 in
theorem text_any (c : List Int) (hc : c.length = 15) (hw : ∀ x ∈ c, (Lit.int .i64 x).wf = true) (w : World) (hv : Vars w) :
    Calls Tryd.prog 25 #[.agg (cfgA c)] w fun e w' => e = .returned (.string (textV c)) ∧ Below w.heap.size w w' := by
  obtain ⟨i0, hi, hz0, hz1, hz2⟩ := info_parts str_info
  have HV := Lib.hid hv
  have HW := Lib.hid hw
  have B0 := Lib.hid ((Below.refl w.heap.size w).alloc (Nat.le_refl _) (.cells (cfgA c) 40))
  clear hv hw
  go_enter Tryd.func25, Tryd.ntmps25
  go_wp2_with fail
  refine (places_any _ _).mono ?_
  rintro e w1 ⟨rfl, b1⟩
  have HC := Lib.hid (show Blk w1 w.heap.size 40 (cfgA c) from (b1.block _ (by simp)).trans (heap_alloc_new _ _))
  have B1 := Lib.hid (B0.out.trans (b1.mono B0.out.size))
  clear b1 B0
  have hpz : w.heap.size < w1.heap.size := HC.out.lt
  go_wp2_with fail
  go_loopw [3, 7] (fun sl i wr => ∃ (k : Nat) (A' : Option Addr) (c' : Nat), k ≤ 15 ∧ sl = .slice A' k c' ∧ i = .int .i64 k ∧ Sl wr 9 1 (.slice A' k c') k (encS (digs (c.take k))) ∧ (∀ g, Value.ownBlock (.slice A' k c') = some g → w1.heap.size ≤ g) ∧ Below w1.heap.size w1 wr) (fun _ i _ => 15 - (intOf i).toNat)
  case atStart => exact ⟨0, none, 0, by omega, rfl, rfl, Sl.nil _ _ _, fun g hg => by simp [Value.ownBlock] at hg, Below.refl _ _⟩
  case round =>
    obtain ⟨k, A', c', hk, rfl, rfl, hS, hO, hb⟩ := hrel
    have HS := Lib.hid hS
    have HO := Lib.hid hO
    have HB := Lib.hid hb
    clear hS hO
    by_cases hlt : k < 15
    · have hk1 : (k : Int) < 15 := by omega
      have rp := fun W => run_ptr w.heap.size k hlt W
      have hx := fld_at hc hlt
      have e0 := (HC.out.b hb).cell k
      rw [cfgA_at hx] at e0
      have hxw := HW.out _ (List.mem_of_getElem? hx)
      have hst := digs_take_succ hx
      generalize fld c k = x at e0 hx hxw hst
      have HX := Lib.hid hst
      have HI := Lib.hid (itoa_any x hxw wr (HV.out.below (B1.out.trans (hb.mono B1.out.size))))
      clear hb hst
      go_wp2_with fail
      refine HI.out.mono ?_
      rintro e w2 ⟨rfl, b2⟩
      replace HS := Lib.hid (HS.out.b b2)
      replace HB := Lib.hid (HB.out.trans (b2.mono HB.out.size))
      clear b2 HI
      go_wp2_with (at_builtin; refine wpList_append_sl _ rfl (.tmp 10) (.tmp 15) 71 rfl 9 i0 _ 1 16 Tryd.underlying71 hi hz0 hz1 hz2 rfl (by decide) (.slice A' k c') k (encS (digs (c.take k))) rfl ?hs ⟨_, 0, none⟩ 1 1 [.string (bs (Lib.itoa x))] rfl rfl ?hn ?h1 ?hm ?hb ?_)
      case hs => repeat (first | exact HS.out | refine Sl.alloc ?_ _)
      case hn => exact news1 (by simp)
      case h1 => simp [Value.oneCell']
      case hm => unfold maxLen; omega
      case hb => omega
      intro A2 c2 w3 hs2 ho2 hl2
      have hs3 : (w2.alloc (.cells #[.string (bs (Lib.itoa x))] 9)).heap.size = w2.heap.size + 1 := World.size_alloc _ _
      have HB3 := Lib.hid (B_only (HB.out.alloc HB.out.size _) ho2 HO.out)
      have HO3 := Lib.hid (own_later hl2 HO.out (by rw [hs3]; have := HB.out.size; omega))
      have HS3 := Lib.hid hs2
      clear hs2 ho2 hl2 hs3
      go_wp2_with fail
      go_roundw
      case rel => exact ⟨k + 1, A2, c2, by omega, rfl, by push_cast; rfl, by rw [HX.out, encS_append]; exact HS3.out, HO3.out, HB3.out⟩
      case measure => simp [intOf]; omega
    · obtain rfl : k = 15 := by omega
      rw [show c.take 15 = c by rw [List.take_of_length_le (by omega)]] at HS
      have hl : (digs c).length = 15 := by unfold digs; rw [List.length_map]; exact hc
      have hat := StrsAt.of_Sl HS.out hl
      have hjl := digs_join HW.out
      have hcc : 15 ≤ c' := by
        obtain ⟨_, _, e, h1, _⟩ := HS.out.slice
        injection e with _ _ e
        omega
      have HJ := Lib.hid (join_any A' c' (digs c) wr hat (by omega) (by omega) (by omega) (by omega))
      rw [hl] at HJ
      have HBW := Lib.hid (B1.out.trans (HB.out.mono B1.out.size))
      clear hat hjl
      go_wp2_with fail
      refine HJ.out.mono ?_
      rintro e w2 ⟨rfl, b2⟩
      go_wp2_with fail
      go_ret
      exact ⟨rfl, HBW.out.trans (b2.mono HBW.out.size)⟩
end Go.Proofs.YtogomkkglcddmaaDoor.Cf
