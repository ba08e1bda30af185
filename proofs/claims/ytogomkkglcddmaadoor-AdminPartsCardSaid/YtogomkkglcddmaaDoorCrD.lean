/- The reference's Check, Name, Text (hostlerref08). -/
import Derived.Test.YtogomkkglcddmaaDoorCrB
import Derived.Test.YtogomkkglcddmaaDoorCrA
import Derived.Test.YtogomkkglcddmaaDoorCfL
namespace Go.Proofs.YtogomkkglcddmaaDoor.Cf
open Go.RowKit Go.Proofs.YtogomkkglcddmaaDoor Go.Proofs.YtogomkkglcddmaaDoor.Nm
set_option maxRecDepth 100000 in
set_option maxHeartbeats 2000000 in
theorem refcheck_any (c : List Int) (hc : c.length = 15) (w : World) :
    Calls Tryd.prog 28 #[.agg (cfgA c)] w fun e w' => e = .returned (.tuple #[.int .i64 (checkV c).1, .int .i64 (checkV c).2]) ∧ Below w.heap.size w w' := by
  have h6 := cfgA_at (fld_at hc (k := 6) (by decide))
  have h1 := cfgA_at (fld_at hc (k := 1) (by decide))
  have hsz := cfg_sz hc
  have HLI := Lib.hid (list_any c hc)
  have HHI : Hid (∀ k < 15, (cfgA (hiL (fld c 6) (fld c 1)))[k]? = some (.int .i64 (hiOf c k))) := Lib.hid fun k hk => cfgA_at (fld_at (c := hiL _ _) rfl hk)
  have HLO : Hid (∀ k < 15, (cfgA loL)[k]? = some (.int .i64 (loOf k))) := Lib.hid fun k hk => cfgA_at (fld_at (c := loL) rfl hk)
  generalize fld c 6 = life at h6 HHI
  generalize fld c 1 = per at h1 HHI
  obtain ⟨r, hr⟩ : ∃ r, checkV c = r := ⟨_, rfl⟩
  rw [hr]
  have HR := Lib.hid hr
  clear hr
  go_enter Tryd.func28, Tryd.ntmps28
  go_wp2_with (refine load_blk (by rfl) _ (by rfl) (by rfl) (by exact (heap_at_old (by simp; omega) (heap_at_old (by simp) (heap_at_new _ (by simp))))) _ Tryd.underlying40 rfl hsz ?_)
  refine (HLI.out _).mono ?_
  rintro e w1 ⟨v, rfl, ⟨g, cc, rfl, hcc, hg, hlb⟩, b1⟩
  have HKl := Lib.hid (show Blk w1 (w.heap.size + 1) 3 (cfgA loL) from (b1.block _ (by first | (simp; done) | (simp; omega))).trans (heap_at_old (by simp) (heap_at_new _ (by simp))))
  have HKh := Lib.hid (show Blk w1 (w.heap.size + 1 + 1) 3 (cfgA (hiL life per)) from (b1.block _ (by first | (simp; done) | (simp; omega))).trans (heap_at_new _ (by simp)))
  have HKc := Lib.hid hlb
  have B1 := Lib.hid ((((Below.refl w.heap.size w).alloc (Nat.le_refl _) _).alloc (by simp) _).alloc (by simp; omega) _ |>.trans (b1.mono (by simp; omega)))
  clear b1 hlb HLI hg h6 h1
  go_wp2_with fail
  go_loopw [7] (fun i wr => ∃ k : Nat, k ≤ 15 ∧ i = .int .i64 k ∧ Below w1.heap.size w1 wr ∧ checkV c = checkF c k (15 - k)) (fun i _ => 15 - (intOf i).toNat)
  case atStart => exact ⟨0, by omega, rfl, Below.refl _ _, rfl⟩
  case round =>
    obtain ⟨k, hk, rfl, hb, hch⟩ := hrel
    have HB := Lib.hid hb
    have HCH := Lib.hid hch
    clear hch
    by_cases hlt15 : k < 15
    · have e0 := (HKc.out.b hb).cell k
      rw [cfgA_at (fld_at hc hlt15)] at e0
      have e1 := (HKl.out.b hb).cell k
      rw [HLO.out k hlt15] at e1
      have e2 := (HKh.out.b hb).cell k
      rw [HHI.out k hlt15] at e2
      clear hb
      have hk0 : (0 : Int) ≤ (k : Int) := by omega
      have hk1 : (k : Int) < 15 := by omega
      have hst := checkF_step (c := c) hlt15
      have hbd := checkF_bad (c := c) hlt15
      unfold badAt at hst hbd
      generalize fld c k = x at e0 hst hbd
      generalize loOf k = lo at e1 hst hbd
      generalize hiOf c k = hi at e2 hst hbd
      by_cases h1 : x < lo
      · have t1 : decide (x < lo) = true := decide_eq_true h1
        have hrr : r = ((k : Int), 10) := by rw [← HR.out, HCH.out]; exact hbd (.inl h1)
        subst hrr
        clear hst hbd
        go_wp2_with fail
        go_quiet (fail)
        go_wp2_with fail
        go_ret2
        exact ⟨rfl, B1.out.trans ((HB.out.mono B1.out.size).trans (by first | exact Below.refl _ _ | exact (Below.refl _ _).drew | exact ⟨rfl, rfl, rfl, Nat.le_refl _, fun _ _ => rfl⟩))⟩
      · have t1 : decide (x < lo) = false := decide_eq_false h1
        by_cases h2 : hi < x
        · have t2 : decide (hi < x) = true := decide_eq_true h2
          have hrr : r = ((k : Int), 10) := by rw [← HR.out, HCH.out]; exact hbd (.inr h2)
          subst hrr
          clear hst hbd
          go_wp2_with fail
          go_quiet (fail)
          go_wp2_with fail
          go_ret2
          exact ⟨rfl, B1.out.trans ((HB.out.mono B1.out.size).trans (by first | exact Below.refl _ _ | exact (Below.refl _ _).drew | exact ⟨rfl, rfl, rfl, Nat.le_refl _, fun _ _ => rfl⟩))⟩
        · have t2 : decide (hi < x) = false := decide_eq_false h2
          have HCS := Lib.hid (HCH.out.trans (hst (by omega)))
          clear hst hbd
          go_wp2_with fail
          go_quiet (fail)
          go_wp2_with fail
          go_roundw
          case rel => exact ⟨k + 1, by omega, by push_cast; rfl, by first | exact HB.out | exact HB.out.drew | exact ⟨HB.out.os, HB.out.tape, HB.out.output, HB.out.size, HB.out.block⟩, HCS.out⟩
          case measure => simp [intOf]; omega
    · have hke : k = 15 := by omega
      subst hke
      have hrr : r = (-1, 0) := by rw [← HR.out, HCH.out]; rfl
      subst hrr
      go_wp2_with fail
      go_ret2
      exact ⟨rfl, B1.out.trans (HB.out.mono B1.out.size)⟩
set_option maxRecDepth 100000 in
set_option maxHeartbeats 8000000 in
theorem refname_any (n : Int) (w : World) :
    Calls Tryd.prog 33 #[.int .i64 n] w fun e w' => e = .returned (.string (nameV n)) ∧ Below w.heap.size w w' := by
  cases hin : inV n with
  | false =>
    have hv : nameV n = ⟨#[]⟩ := by unfold nameV; rw [hin]; rfl
    rw [hv]
    rcases inV_no hin with h | ⟨h, h2⟩
    · go_enter Tryd.func33, Tryd.ntmps33
      go_wp2_with fail
      go_ret
      exact ⟨rfl, Below.refl _ _⟩
    · go_enter Tryd.func33, Tryd.ntmps33
      go_wp2_with fail
      go_ret
      exact ⟨rfl, Below.refl _ _⟩
  | true =>
    obtain ⟨k, hk, rfl⟩ := inV_yes hin
    have hv : nameV (k : Int) = names.getD k ⟨#[]⟩ := by unfold nameV; rw [hin]; rfl
    rw [hv]
    clear hv hin
    have hB := Lib.hid (fun o => (Below.refl w.heap.size w).alloc (Nat.le_refl _) o)
    match k, hk with
    | 0, _ | 1, _ | 2, _ | 3, _ | 4, _ | 5, _ | 6, _ | 7, _ | 8, _ | 9, _ | 10, _ | 11, _ | 12, _ | 13, _ | 14, _ =>
      go_enter Tryd.func33, Tryd.ntmps33
      go_wp2_with fail
      go_ret
      exact ⟨rfl, hB.out _⟩
/-- The reference's text, as far as it is laid. -/
def texF (c : List Int) (k : Nat) : ByteArray := bs (Lib.join ((c.take k).map Lib.itoa) [32])
theorem texF_all {c : List Int} (hc : c.length = 15) : texF c 15 = textV c := by
  unfold texF textV joinV
  rw [List.take_of_length_le (by omega), digs_list]
theorem texF_one {c : List Int} {x : Int} (h : c[0]? = some x) : texF c 1 = bs (Lib.itoa x) := by
  unfold texF
  rw [List.take_add_one, List.take_zero, h]
  show bs (Lib.join [Lib.itoa x] [32]) = _
  rw [Lib.join_one]
theorem texF_succ {c : List Int} {k : Nat} {x : Int} (hk : 1 ≤ k) (hl : k < c.length) (h : c[k]? = some x) : texF c (k + 1) = texF c k ++ (bs [32] ++ bs (Lib.itoa x)) := by
  unfold texF
  rw [List.take_add_one, h]
  simp only [Option.toList_some, List.map_append, List.map_cons, List.map_nil]
  rw [Sp.join_snoc _ _ _ (by intro e; have := congrArg List.length e; rw [List.length_map, List.length_take, List.length_nil] at this; omega), bs_append, bs_append]
theorem texF_size {c : List Int} (hw : ∀ x ∈ c, (Lit.int .i64 x).wf = true) (k : Nat) : (texF c k).size ≤ c.length * 101 := by
  have h := digs_join (c := c.take k) (fun x hx => hw x (List.mem_of_mem_take hx))
  rw [digs_list] at h
  unfold texF
  rw [bs_size]
  have : (c.take k).length * 101 ≤ c.length * 101 := Nat.mul_le_mul_right _ (by rw [List.length_take]; omega)
  omega
attribute [local go_sem ↓ high] exec_cat
attribute [local go_sem] strOf_str
set_option maxRecDepth 100000 in
set_option maxHeartbeats 2000000 in
theorem reftext_any (c : List Int) (hc : c.length = 15) (hw : ∀ x ∈ c, (Lit.int .i64 x).wf = true) (w : World) :
    Calls Tryd.prog 31 #[.agg (cfgA c)] w fun e w' => e = .returned (.string (textV c)) ∧ Below w.heap.size w w' := by
  have hsz := cfg_sz hc
  have HLI := Lib.hid (list_any c hc)
  have HW := Lib.hid hw
  have HT := Lib.hid (fun k => texF_size hw k)
  have h0 := fld_at hc (k := 0) (by decide)
  have hw0 := hw _ (List.mem_of_getElem? h0)
  have HD0 := Lib.hid (digits_any (fld c 0) hw0)
  have hx0 := texF_one h0
  unfold DigPost at HD0
  rw [← hx0] at HD0
  obtain ⟨r, hr⟩ : ∃ r, textV c = r := ⟨_, rfl⟩
  rw [hr]
  have HR := Lib.hid ((texF_all hc).trans hr)
  clear hw hr hx0
  go_enter Tryd.func31, Tryd.ntmps31
  go_wp2_with (refine load_blk (by rfl) _ (by rfl) (by rfl) (by exact (heap_at_new _ (by simp))) _ Tryd.underlying40 rfl hsz ?_)
  refine (HLI.out _).mono ?_
  rintro e w1 ⟨v, rfl, ⟨g, cc, rfl, hcc, hg, hlb⟩, b1⟩
  have HKc := Lib.hid hlb
  have B1 := Lib.hid (((Below.refl w.heap.size w).alloc (Nat.le_refl _) _).trans (b1.mono (by first | (simp; done) | (simp; omega))))
  have e0 := hlb.cell 0
  rw [cfgA_at h0] at e0
  generalize fld c 0 = y0 at *
  clear b1 hlb HLI hg
  go_wp2_with fail
  refine (HD0.out _).mono ?_
  rintro e w2 ⟨rfl, b2⟩
  have HK2 := Lib.hid (HKc.out.b b2)
  have B2 := Lib.hid (B1.out.trans (b2.mono B1.out.size))
  clear b2 HKc B1 HD0 e0
  go_wp2_with fail
  go_loopw [4, 5] (fun s i wr => ∃ k : Nat, 1 ≤ k ∧ k ≤ 15 ∧ s = .string (texF c k) ∧ i = .int .i64 k ∧ Below w2.heap.size w2 wr) (fun _ i _ => 15 - (intOf i).toNat)
  case atStart => exact ⟨1, by omega, by omega, rfl, rfl, Below.refl _ _⟩
  case round =>
    obtain ⟨k, hk1, hk, rfl, rfl, hb⟩ := hrel
    have HB := Lib.hid hb
    by_cases hlt : k < 15
    · have hx := fld_at hc hlt
      have e0 := (HK2.out.b hb).cell k
      rw [cfgA_at hx] at e0
      have hxw := HW.out _ (List.mem_of_getElem? hx)
      have hstep := texF_succ hk1 (by omega) hx
      generalize fld c k = x at *
      have HD := Lib.hid (digits_any x hxw)
      have hsz1 := HT.out k
      have hix : (bs (Lib.itoa x)).size ≤ 100 := by rw [bs_size]; exact itoa_len hxw
      have HS := Lib.hid hstep
      unfold DigPost at HD
      clear hstep hb hx hxw h0
      generalize texF c k = T at *
      generalize bs (Lib.itoa x) = X at *
      have hc1 : catOk ⟨#[32]⟩ X := by unfold catOk; rw [show (⟨#[32]⟩ : ByteArray).size = 1 from rfl]; omega
      have hc2 : catOk T (⟨#[32]⟩ ++ X) := by unfold catOk; rw [ByteArray.size_append, show (⟨#[32]⟩ : ByteArray).size = 1 from rfl]; omega
      have hk0 : (0 : Int) ≤ (k : Int) := by omega
      have hk15 : (k : Int) < 15 := by omega
      clear hsz1
      go_wp2_with fail
      refine (HD.out _).mono ?_
      rintro e w3 ⟨rfl, b3⟩
      have HB3 := Lib.hid (HB.out.trans (b3.mono HB.out.size))
      clear b3 HD
      have s1 : X.size ≤ 9223372036854775806 := by omega
      go_wp2_with fail
      go_roundw
      case rel => exact ⟨k + 1, by omega, by omega, by rw [HS.out]; rfl, by push_cast; rfl, HB3.out⟩
      case measure => simp [intOf]; omega
    · obtain rfl : k = 15 := by omega
      rw [HR.out]
      go_wp2_with fail
      go_ret
      exact ⟨rfl, B2.out.trans (HB.out.mono B2.out.size)⟩
end Go.Proofs.YtogomkkglcddmaaDoor.Cf
