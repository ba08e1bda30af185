/- config.Check: the first field that may not be. -/
import Derived.Test.YtogomkkglcddmaaDoorCfA
namespace Go.Proofs.YtogomkkglcddmaaDoor.Cf
open Go.RowKit Go.Proofs.YtogomkkglcddmaaDoor Go.Proofs.YtogomkkglcddmaaDoor.Nm

def loL : List Int := [1, 1, 1, 0, 1, 1, 1, 0, 1, 0, 1, 1, 1, 1, 0]
def hiL (life per : Int) : List Int := [1024, 8, 32, 16, 1048576, 1048576, 1048576, life, 1048576, per, 1048576, 16, 1048576, 1048576, 256]
/-- The field k of c. -/
def fld (c : List Int) (k : Nat) : Int := c.getD k 0
def hiOf (c : List Int) (k : Nat) : Int := (hiL (fld c 6) (fld c 1)).getD k 0
def loOf (k : Nat) : Int := loL.getD k 0
def badAt (c : List Int) (k : Nat) : Prop := fld c k < loOf k ∨ hiOf c k < fld c k
instance (c : List Int) (k : Nat) : Decidable (badAt c k) := by unfold badAt; infer_instance
/-- From the field k on: n fields. -/
def checkF (c : List Int) : Nat → Nat → Int × Int
  | _, 0 => (-1, 0)
  | k, n + 1 => if badAt c k then ((k : Int), 10) else checkF c (k + 1) n
def checkV (c : List Int) : Int × Int := checkF c 0 15
theorem checkF_step {c : List Int} {k : Nat} (hk : k < 15) (h : ¬ badAt c k) : checkF c k (15 - k) = checkF c (k + 1) (15 - (k + 1)) := by
  obtain ⟨n, hn⟩ : ∃ n, 15 - k = n + 1 := ⟨15 - k - 1, by omega⟩
  rw [hn, show 15 - (k + 1) = n by omega]
  show (if badAt c k then _ else _) = _
  rw [if_neg h]
theorem checkF_bad {c : List Int} {k : Nat} (hk : k < 15) (h : badAt c k) : checkF c k (15 - k) = ((k : Int), 10) := by
  obtain ⟨n, hn⟩ : ∃ n, 15 - k = n + 1 := ⟨15 - k - 1, by omega⟩
  rw [hn]
  show (if badAt c k then _ else _) = _
  rw [if_pos h]
theorem fld_at {c : List Int} (hc : c.length = 15) {k : Nat} (hk : k < 15) : c[k]? = some (fld c k) := by
  unfold fld
  rw [List.getD_eq_getElem?_getD, List.getElem?_eq_getElem (by omega)]
  rfl
theorem bounds_at (c : List Int) (k : Nat) (hk : k < 15) : (boundsA (fld c 6) (fld c 1))[k * 2]? = some (.int .i64 (loOf k)) ∧ (boundsA (fld c 6) (fld c 1))[k * 2 + 1]? = some (.int .i64 (hiOf c k)) := by
  match k, hk with
  | 0, _ | 1, _ | 2, _ | 3, _ | 4, _ | 5, _ | 6, _ | 7, _ | 8, _ | 9, _ | 10, _ | 11, _ | 12, _ | 13, _ | 14, _ => exact ⟨rfl, rfl⟩
theorem run_ptr (b k : Nat) (hk : k < 15) (w : World) : (Instr.index 79 (.agg (ptrs b)) (.int .i64 k)).run Tryd.prog w = .ok (.pointer (some ⟨b, k, none⟩)) w :=
  run_index_one Tryd.underlying79 Tryd.underlying78 rfl (by kernel_rfl) _ _ (by omega) (by omega) _ (by rw [Int.toNat_natCast]; exact ptrs_at b k hk) w
set_option maxRecDepth 100000 in
theorem check_any (c : List Int) (hc : c.length = 15) (w : World) :
    Calls Tryd.prog 24 #[.agg (cfgA c)] w fun e w' => e = .returned (.tuple #[.int .i64 (checkV c).1, .int .i64 (checkV c).2]) ∧ Below w.heap.size w w' := by
  have h6 := cfgA_at (fld_at hc (k := 6) (by decide))
  have h1 := cfgA_at (fld_at hc (k := 1) (by decide))
  have hsz : (Tryd.prog.info? 40).map (·.size) = some (cfgA c).size := by rw [cfgA_size, hc]; exact cfg_size
  obtain ⟨r, hr⟩ : ∃ r, checkV c = r := ⟨_, rfl⟩
  rw [hr]
  have HR := Lib.hid hr
  clear hr
  go_enter Tryd.func24, Tryd.ntmps24
  go_wp2_with (refine load_blk (by rfl) _ (by rfl) (by rfl) (heap_at_new _ (by simp)) _ Tryd.underlying40 rfl hsz ?_)
  refine (bounds_any (cfgA c) _ _ h6 h1 _).mono ?_
  rintro e w1 ⟨rfl, b1⟩
  have hc0 : Blk w1 w.heap.size 40 (cfgA c) := (b1.block _ (by simp)).trans (heap_at_new _ (by simp))
  have B1 := Lib.hid ((((Below.refl w.heap.size w).alloc (Nat.le_refl _) _)).trans (b1.mono (by simp)))
  have HC0 := Lib.hid hc0
  clear b1 hc0
  have hlt : w.heap.size < w1.heap.size := HC0.out.lt
  go_wp2_with (refine store_blk (by rfl) _ _ (by rfl) (by rfl) (by rfl) (heap_at_new _ (by simp)) (by rfl) (by kernel_rfl) (by simp [boundsA, Value.oneCell']) ?_; intro w2 hb2 ho2)
  have B2 := Lib.hid (only_below (w := w) (B1.out.alloc B1.out.size _) ho2 B1.out.size)
  have HC2 := Lib.hid (Blk.only (HC0.out.alloc _) ho2 (by show ¬ w.heap.size = w1.heap.size; omega))
  have HB2 := Lib.hid hb2
  clear hb2 ho2 HC0 B1
  refine (places_any _ _).mono ?_
  rintro e w3 ⟨rfl, b3⟩
  have B3 := Lib.hid (B2.out.trans (b3.mono B2.out.size))
  have HC3 := Lib.hid (HC2.out.b b3)
  have HB3 := Lib.hid (HB2.out.b b3)
  generalize w1.heap.size = q at HB3 hlt ⊢
  generalize w.heap.size = p at HC3 hlt ⊢
  clear b3 HB2 HC2 B2
  go_wp2_with fail
  go_loopw [10] (fun i wr => ∃ k : Nat, k ≤ 15 ∧ i = .int .i64 k ∧ Below w3.heap.size w3 wr ∧ checkV c = checkF c k (15 - k)) (fun i _ => 15 - (intOf i).toNat)
  case atStart => exact ⟨0, by omega, rfl, Below.refl _ _, rfl⟩
  case round =>
    obtain ⟨k, hk, rfl, hb, hch⟩ := hrel
    have HB := Lib.hid hb
    have HCH := Lib.hid hch
    clear hch
    by_cases hlt15 : k < 15
    · have hcc := HC3.out.b hb
      have hbb := HB3.out.b hb
      have e0 := hcc.cell k
      rw [cfgA_at (fld_at hc hlt15)] at e0
      have e1 := hbb.cell (k * 2)
      have e2 := hbb.cell (k * 2 + 1)
      rw [(bounds_at c k hlt15).1] at e1
      rw [(bounds_at c k hlt15).2] at e2
      have rp := fun W => run_ptr p k hlt15 W
      clear hcc hbb hb
      have hk0 : (0 : Int) ≤ (k : Int) := by omega
      have hk1 : (k : Int) < 15 := by omega
      have hst := checkF_step (c := c) hlt15
      have hbd := checkF_bad (c := c) hlt15
      unfold badAt at hst hbd
      generalize fld c k = x at e0 hst hbd
      generalize loOf k = lo at e1 hst hbd
      generalize hiOf c k = hi at e2 hst hbd
      by_cases h1 : x < lo
      · have t1 : decide (x < lo) = true := decide_eq_true h1
        have hrr : r = ((k : Int), 10) := by rw [← HR.out, HCH.out]; exact hbd (.inl h1)
        subst hrr
        clear hst hbd
        go_wp2_with fail
        go_quiet (fail)
        go_wp2_with fail
        go_ret2
        exact ⟨rfl, B3.out.trans ((HB.out.mono B3.out.size).trans (by first | exact Below.refl _ _ | exact (Below.refl _ _).drew | exact ⟨rfl, rfl, rfl, Nat.le_refl _, fun _ _ => rfl⟩))⟩
      · have t1 : decide (x < lo) = false := decide_eq_false h1
        by_cases h2 : hi < x
        · have t2 : decide (hi < x) = true := decide_eq_true h2
          have hrr : r = ((k : Int), 10) := by rw [← HR.out, HCH.out]; exact hbd (.inr h2)
          subst hrr
          clear hst hbd
          go_wp2_with fail
          go_quiet (fail)
          go_wp2_with fail
          go_ret2
          exact ⟨rfl, B3.out.trans ((HB.out.mono B3.out.size).trans (by first | exact Below.refl _ _ | exact (Below.refl _ _).drew | exact ⟨rfl, rfl, rfl, Nat.le_refl _, fun _ _ => rfl⟩))⟩
        · have t2 : decide (hi < x) = false := decide_eq_false h2
          have HCS := Lib.hid (HCH.out.trans (hst (by omega)))
          clear hst hbd
          go_wp2_with fail
          go_quiet (fail)
          go_wp2_with fail
          go_roundw
          case rel => exact ⟨k + 1, by omega, by push_cast; rfl, by first | exact HB.out | exact HB.out.drew | exact ⟨HB.out.os, HB.out.tape, HB.out.output, HB.out.size, HB.out.block⟩, HCS.out⟩
          case measure => simp [intOf]; omega
    · have hke : k = 15 := by omega
      subst hke
      have hrr : r = (-1, 0) := by rw [← HR.out, HCH.out]; rfl
      subst hrr
      go_wp2_with fail
      go_ret2
      exact ⟨rfl, B3.out.trans (HB.out.mono B3.out.size)⟩
end Go.Proofs.YtogomkkglcddmaaDoor.Cf
