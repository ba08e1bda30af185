/- config.Read. -/
import Derived.Test.YtogomkkglcddmaaDoorCfD
namespace Go.Proofs.YtogomkkglcddmaaDoor.Cf
open Go.RowKit Go.Proofs.YtogomkkglcddmaaDoor Go.Proofs.YtogomkkglcddmaaDoor.Nm

def zeros : List Int := List.replicate 15 0
/-- The numbers that texts are, if each is one. -/
def numsV : List ByteArray → Option (List Int)
  | [] => some []
  | x :: r => match numV x, numsV r with
    | some a, some b => some (a :: b)
    | _, _ => none
theorem numsV_some : ∀ (l : List ByteArray) (d : List Int), d.length = l.length → (∀ (j : Nat) (x : ByteArray) (y : Int), l[j]? = some x → d[j]? = some y → numV x = some y) → numsV l = some d
  | [], [], _, _ => rfl
  | [], _ :: _, h, _ => by simp at h
  | _ :: _, [], h, _ => by simp at h
  | x :: r, y :: t, h, hh => by
    have h1 := hh 0 x y rfl rfl
    have h2 := numsV_some r t (by simpa using h) (fun j a b ha hb => hh (j + 1) a b (by simpa using ha) (by simpa using hb))
    unfold numsV
    rw [h1, h2]
theorem numsV_none : ∀ (l : List ByteArray) (j : Nat) (x : ByteArray), l[j]? = some x → numV x = none → numsV l = none
  | [], j, x, h, _ => by simp at h
  | y :: r, 0, x, h, hx => by
    simp at h; subst h
    unfold numsV
    rw [hx]
  | y :: r, j + 1, x, h, hx => by
    have := numsV_none r j x (by simpa using h) hx
    unfold numsV
    rw [this]
    cases numV y <;> rfl
def readL (l : List ByteArray) : List Int × Int :=
  if l.length = 15 then match numsV l with
    | none => (zeros, 2)
    | some c => if (checkV c).2 = 0 then (c, 0) else (zeros, (checkV c).2)
  else (zeros, 2)
def readV (s : ByteArray) : List Int × Int := readL (cutV 32 s)
theorem zerosA : cfgA zeros = #[.int .i64 0, .int .i64 0, .int .i64 0, .int .i64 0, .int .i64 0, .int .i64 0, .int .i64 0, .int .i64 0, .int .i64 0, .int .i64 0, .int .i64 0, .int .i64 0, .int .i64 0, .int .i64 0, .int .i64 0] := rfl
theorem zeros_len : zeros.length = 15 := rfl
/-- What is answered: a config, an error's number. -/
def CfgPost (r : List Int × Int) (w : World) (e : Ending) (w' : World) : Prop := e = .returned (.tuple #[.agg (cfgA r.1), .int .i64 r.2]) ∧ Below w.heap.size w w'
set_option maxRecDepth 100000 in
set_option maxHeartbeats 4000000 in
theorem read_any (s : ByteArray) (hs : s.size ≤ 9999) (w : World) (hv : Vars w) :
    Calls Tryd.prog 22 #[.string s] w (CfgPost (readV s) w) := by
  have HV := Lib.hid hv
  clear hv
  obtain ⟨r, hr⟩ : ∃ r, readV s = r := ⟨_, rfl⟩
  rw [hr]
  have HR := Lib.hid hr
  clear hr
  go_enter Tryd.func22, Tryd.ntmps22
  go_wp2_with fail
  rw [← zerosA]
  have HZA := Lib.hid ((((Below.refl w.heap.size w).alloc (Nat.le_refl _) (.cells (cfgA zeros) 40)).alloc (by simp) (.cells (cfgA zeros) 40)))
  have HC2 := Lib.hid (show Blk ((w.alloc (.cells (cfgA zeros) 40)).alloc (.cells (cfgA zeros) 40)) w.heap.size _ (cfgA zeros) from heap_at_old (by simp) (heap_at_new _ (by simp)))
  have HC4 := Lib.hid (show Blk ((w.alloc (.cells (cfgA zeros) 40)).alloc (.cells (cfgA zeros) 40)) (w.heap.size + 1) _ (cfgA zeros) from heap_at_new _ (by simp))
  have HSP := Lib.hid (split_any 32 s hs _ (HV.out.below HZA.out))
  generalize hw2 : ((w.alloc (.cells (cfgA zeros) 40)).alloc (.cells (cfgA zeros) 40)) = w2 at HZA HC2 HC4 HSP
  clear hw2
  have hsz2 : w.heap.size + 1 < w2.heap.size := HC4.out.lt
  have hmem : ∀ x ∈ cutV 32 s, x.size ≤ 9999 := fun x hx => Nat.le_trans (cutV_mem hx) hs
  have hr := HR.out
  unfold readV at hr
  generalize cutV 32 s = l at hr HSP hmem
  unfold readL at hr
  have HRV := Lib.hid hr.symm
  have HMEM := Lib.hid hmem
  clear hr HR hmem
  refine HSP.out.mono ?_
  rintro e w3 ⟨A, cc, rfl, hcc, hat, hA, b3⟩
  have HAT := Lib.hid hat
  have B3 := Lib.hid (HZA.out.trans (b3.mono HZA.out.size))
  have HC23 := Lib.hid (HC2.out.b b3)
  have HC43 := Lib.hid (HC4.out.b b3)
  have hAne : ∀ ad, A = some ad → ad.block ≠ w.heap.size + 1 := fun ad h => by have := hA ad h; omega
  have hs3 := b3.size
  have HNE := Lib.hid hAne
  clear hat b3 hA HSP HC2 HC4 HZA hAne
  by_cases h15 : l.length = 15
  · have t1 : ((l.length : Int) != 15) = false := by rw [h15]; rfl
    have HRW : Hid (r = match numsV l with
      | none => (zeros, 2)
      | some c => if (checkV c).2 = 0 then (c, 0) else (zeros, (checkV c).2)) := Lib.hid (by rw [HRV.out, if_pos h15])
    clear HRV
    go_wp2_with fail
    refine (places_any _ _).mono ?_
    rintro e w4 ⟨rfl, b4⟩
    have HAT4 := Lib.hid (HAT.out.below b4)
    have B4 := Lib.hid (B3.out.trans (b4.mono B3.out.size))
    have HC24 := Lib.hid (HC23.out.b b4)
    have HC44 := Lib.hid (HC43.out.b b4)
    have hs4 := b4.size
    clear b4 HAT HC23 HC43
    go_wp2_with fail
    go_loopw [19] (fun i wr => ∃ (k : Nat) (d : List Int), k ≤ 15 ∧ i = .int .i64 k ∧ d.length = 15 ∧ (∀ (j : Nat) (x : ByteArray) (y : Int), j < k → l[j]? = some x → d[j]? = some y → numV x = some y) ∧ Blk wr (w.heap.size + 1) 40 (cfgA d) ∧ Blk wr w.heap.size 40 (cfgA zeros) ∧ StrsAt wr A l ∧ Below w.heap.size w wr) (fun i _ => 15 - (intOf i).toNat)
    case atStart => exact ⟨0, zeros, by omega, rfl, rfl, fun j x y hj => by omega, HC44.out, HC24.out, HAT4.out, B4.out⟩
    case round =>
      obtain ⟨k, d, hk, rfl, hd, hnum, hb4, hb2, hat, hb⟩ := hrel
      have H4 := Lib.hid hb4
      have H2 := Lib.hid hb2
      have HA := Lib.hid hat
      have HB := Lib.hid hb
      have HNM := Lib.hid hnum
      clear hb4 hb2 hat hb hnum HAT4 B4 HC24 HC44
      by_cases hlt : k < 15
      · have hk1 : (k : Int) < 15 := by omega
        have hk0 : (0 : Int) ≤ (k : Int) := by omega
        have rp := fun W => run_ptr (w.heap.size + 1) k hlt W
        obtain ⟨x, hx⟩ : ∃ x, l[k]? = some x := ⟨_, List.getElem?_eq_getElem (by omega)⟩
        obtain ⟨g, o, rfl, hcx⟩ := HA.out k x hx
        have hxs : x.size ≤ 9999 := HMEM.out x (List.mem_of_getElem? hx)
        have HN := Lib.hid (number_any x (by omega) wr (HV.out.below HB.out))
        go_wp2_with fail
        refine HN.out.mono ?_
        rintro e w5 ⟨n, ok, rfl, hok, hnv, b5⟩
        have hs5 := b5.size
        have hltw := (H4.out.b b5).lt
        have e0 := (H4.out.b b5).cell k
        rw [cfgA_at (fld_at hd hlt)] at e0
        have e1 := (H4.out.b b5).frozen k
        have HS4 := Lib.hid ((H4.out.b b5).set_ k (.int .i64 n))
        rw [cfgA_set] at HS4
        have HS2 := Lib.hid ((H2.out.b b5).far (p := ⟨w.heap.size + 1, k, none⟩) (by simp) (.int .i64 n))
        have HSA := Lib.hid ((HA.out.below b5).set (k := k) HNE.out (.int .i64 n))
        have HSB := Lib.hid ((HB.out.trans (b5.mono HB.out.size)).setCell (p := ⟨w.heap.size + 1, k, none⟩) (by simp) (.int .i64 n))
        have HS2' := Lib.hid (H2.out.b b5)
        have HBB := Lib.hid (HB.out.trans (b5.mono HB.out.size))
        have HNV := Lib.hid hnv
        have HOK := Lib.hid hok
        clear b5 hnv HN hcx hok
        cases ok with
        | true =>
          go_wp2_with fail
          go_roundw
          case rel =>
            refine ⟨k + 1, d.set k n, by omega, by push_cast; rfl, by rw [List.length_set]; exact hd, fun j y z hj hy hz => ?_, HS4.out, HS2.out, HSA.out, HSB.out⟩
            by_cases hjk : j = k
            · subst hjk
              rw [hx] at hy; cases hy
              rw [List.getElem?_set_self (by omega)] at hz
              cases hz
              obtain ⟨v, hv⟩ := Option.isSome_iff_exists.1 HOK.out.symm
              rw [hv, HNV.out v hv]
            · rw [List.getElem?_set_ne (fun e => hjk e.symm)] at hz
              exact HNM.out j y z (by omega) hy hz
          case measure => simp [intOf]; omega
        | false =>
          have hnone : numV x = none := by
            cases hq : numV x with
            | none => rfl
            | some v => have hok := HOK.out; rw [hq] at hok; cases hok
          have hrr : r = (zeros, 2) := by rw [HRW.out, numsV_none l k x hx hnone]
          subst hrr
          go_wp2_with (refine store_blk (C := cfgA zeros) (by rfl) _ _ (by rfl) (by rfl) (by rfl) HS2'.out (by rfl) (by kernel_rfl) (cfgA_one _) ?_; intro w6 hb6 ho6)
          exact bodyPost_ret (results_two Tryd.results22 rfl rfl (loadVar_blk hb6 _ Tryd.underlying40 rfl (by kernel_rfl))) rfl ⟨rfl, only_below HBB.out ho6 (Nat.le_refl _)⟩
      · obtain rfl : k = 15 := by omega
        have hsd : (Tryd.prog.info? 40).map (·.size) = some (cfgA d).size := cfg_sz hd
        have HZD := Lib.hid (show (cfgA zeros).size = (cfgA d).size by rw [cfgA_size, cfgA_size, hd]; rfl)
        have hns : numsV l = some d := numsV_some l d (by omega) (fun j x y hx hy => HNM.out j x y (by have := (List.getElem?_eq_some_iff.1 hx).1; omega) hx hy)
        have hrr : r = if (checkV d).2 = 0 then (d, 0) else (zeros, (checkV d).2) := by rw [HRW.out, hns]
        have HCK := Lib.hid (check_any d hd wr)
        generalize checkV d = ck at HCK hrr
        have HRR := Lib.hid hrr
        clear hrr
        clear hns HNM
        go_wp2_with (refine load_blk (by rfl) _ (by rfl) (by rfl) H4.out _ Tryd.underlying40 rfl hsd ?_)
        refine HCK.out.mono ?_
        rintro e w5 ⟨rfl, b5⟩
        have H45 := Lib.hid (H4.out.b b5)
        have H25 := Lib.hid (H2.out.b b5)
        have HB5 := Lib.hid (HB.out.trans (b5.mono HB.out.size))
        clear b5 HCK
        by_cases h0 : ck.2 = 0
        · have hrr := HRR.out
          rw [if_pos h0] at hrr
          clear HRR
          subst hrr
          have t2 : (ck.2 != 0) = false := by rw [h0]; rfl
          go_wp2_with (first | (refine load_blk (by rfl) _ (by rfl) (by rfl) H45.out _ Tryd.underlying40 rfl hsd ?_) | (refine store_blk (C := cfgA d) (by rfl) _ _ (by rfl) (by rfl) (by rfl) H25.out HZD.out hsd (cfgA_one _) ?_; intro w6 hb6 ho6))
          exact bodyPost_ret (results_two Tryd.results22 rfl rfl (loadVar_blk hb6 _ Tryd.underlying40 rfl hsd)) rfl ⟨rfl, only_below HB5.out ho6 (Nat.le_refl _)⟩
        · have hrr := HRR.out
          rw [if_neg h0] at hrr
          clear HRR
          subst hrr
          have t2 : (ck.2 != 0) = true := bne_iff_ne.2 h0
          go_wp2_with (refine store_blk (C := cfgA zeros) (by rfl) _ _ (by rfl) (by rfl) (by rfl) H25.out (by rfl) (by kernel_rfl) (cfgA_one _) ?_; intro w6 hb6 ho6)
          exact bodyPost_ret (results_two Tryd.results22 rfl rfl (loadVar_blk hb6 _ Tryd.underlying40 rfl (by kernel_rfl))) rfl ⟨rfl, only_below HB5.out ho6 (Nat.le_refl _)⟩
  · have t1 : ((l.length : Int) != 15) = true := bne_iff_ne.2 (by omega)
    have hrr : r = (zeros, 2) := by rw [HRV.out, if_neg h15]
    subst hrr
    go_wp2_with (refine store_blk (C := cfgA zeros) (by rfl) _ _ (by rfl) (by rfl) (by rfl) HC23.out (by rfl) (by kernel_rfl) (cfgA_one _) ?_; intro w6 hb6 ho6)
    exact bodyPost_ret (results_two Tryd.results22 rfl rfl (loadVar_blk hb6 _ Tryd.underlying40 rfl (by kernel_rfl))) rfl ⟨rfl, only_below B3.out ho6 (Nat.le_refl _)⟩
end Go.Proofs.YtogomkkglcddmaaDoor.Cf
