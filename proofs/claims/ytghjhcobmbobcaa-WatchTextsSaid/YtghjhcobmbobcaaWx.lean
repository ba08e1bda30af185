/- WatchTexts returns true, for every list of outputs and every text: its walk. -/
import Derived.Test.YtghjhcobmbobcaaWv
import Derived.Test.YtghjhcobmbobcaaWg
import Derived.Deep.RegionHeld3
namespace Go.Proofs.Ytghjhcobmbobcaa.Wt
open Go.RowKit Go.Proofs.Ytghjhcobmbobcaa.Mp Go.Proofs.Ytghjhcobmbobcaa Go.Proofs.YtghjhcobmbobcaaW.PrintWords Go.Proofs.YtghjhcobmbobcaaW.PrintLast Go.Proofs.YtghjhcobmbobcaaW.PrintMore Go.Proofs.Ytghjhcobmbobcaa.PWatchAudit

theorem below_drewN {B : Nat} {a w : World} (h : Below B a w) (n : Nat) : Below B a (w.drewN n) := ⟨h.os, h.tape, h.output, h.size, h.block⟩
/-- 'a world that came of wr's, and drew': what is asked at a call within a region that draws. -/
theorem after {base : Nat} {w0 w w' w1 : World} (h0 : Below base w0 w) (hs : base ≤ w.heap.size) (h1 : Below w.heap.size w w1) (h2 : Below base w1 w') : Below base w0 w' := (h0.trans (h1.mono hs)).trans h2
theorem two_seeA' (base a b n : Nat) (s t s' : St) (z : Int) (o : OutV) (w0 w : World) (h : Two base w0 a b n s t) (hb : Below w0.heap.size w0 w) (hn : n < 1000) (hs : o.text.size ≤ 1000) (hz : seeV (rightV o) s o = (s', z)) :
    Calls Try.prog 12 #[.pointer (some ⟨a, 0, none⟩), .agg #[.int .i64 o.k, .int .i64 o.id, .int .i64 o.fk, .string o.data, .string o.text]] w fun e w' => e = .returned (.int .i64 z) ∧ Two base w' a b (n + 1) s' t ∧ Below base w0 w' := by
  refine (two_seeA base a b n s t o w (h.below hb) hn hs).mono ?_
  rw [hz]
  rintro e w' ⟨he, hw, hbb⟩
  exact ⟨he, hw, (hb.mono h.size).trans hbb⟩
theorem two_seeB' (base a b n : Nat) (s t t' : St) (z : Int) (o : OutV) (w0 w : World) (h : Two base w0 a b n s t) (hb : Below w0.heap.size w0 w) (hn : n < 1000) (hs : o.text.size ≤ 1000) (hz : seeV (rightV o) t o = (t', z)) :
    Calls Try.prog 12 #[.pointer (some ⟨b, 0, none⟩), .agg #[.int .i64 o.k, .int .i64 o.id, .int .i64 o.fk, .string o.data, .string o.text]] w fun e w' => e = .returned (.int .i64 z) ∧ Two base w' a b (n + 1) s t' ∧ Below base w0 w' := by
  refine (two_seeA' base b a n t s t' z o w0 w h.symm hb hn hs hz).mono ?_
  rintro e w' ⟨he, hw, hbb⟩
  exact ⟨he, hw.symm, hbb⟩
/-- A list of the one's, the world having drawn. -/
def LPost (L : List Int) (base a b n : Nat) (s t : St) (w0 : World) (e : Ending) (w' : World) : Prop := ∃ A c, e = .returned (.slice A L.length c) ∧ L.length ≤ 1000 ∧ IntsAt w' A L ∧ Two base w' a b n s t ∧ Below w0.heap.size w0 w' ∧ Below base w0 w'
theorem ListPost.to {L : List Int} {base a b n : Nat} {s t : St} {w0 w w' : World} {e : Ending} (h : Two base w0 a b n s t) (hb : Below w0.heap.size w0 w) (hp : ListPost L w e w') : LPost L base a b n s t w0 e w' := by
  obtain ⟨A, c, h1, _, h3, h4, h5⟩ := hp
  have h6 : Below w0.heap.size w0 w' := hb.trans (h5.mono hb.size)
  exact ⟨A, c, h1, h3, h4, h.below h6, h6, h6.mono h.size⟩
section
variable (base a b n : Nat) (s t : St) (w0 w : World) (h : Two base w0 a b n s t) (hb : Below w0.heap.size w0 w) (hn : n < 1000)
include h hb hn
theorem lConnsA : Calls Try.prog 14 #[.pointer (some ⟨a, 0, none⟩)] w (LPost (connsL soAll s) base a b n s t w0) := (two_ConnsA base a b n s t w (h.below hb) hn).mono fun _ _ hp => hp.to h hb
theorem lOpenA : Calls Try.prog 15 #[.pointer (some ⟨a, 0, none⟩)] w (LPost (connsL soOpen s) base a b n s t w0) := (two_OpenA base a b n s t w (h.below hb) hn).mono fun _ _ hp => hp.to h hb
theorem lConnsB : Calls Try.prog 14 #[.pointer (some ⟨b, 0, none⟩)] w (LPost (connsL soAll t) base a b n s t w0) := (two_ConnsA base b a n t s w (h.symm.below hb) hn).mono fun _ _ hp => hp.to h hb
theorem lOpenB : Calls Try.prog 15 #[.pointer (some ⟨b, 0, none⟩)] w (LPost (connsL soOpen t) base a b n s t w0) := (two_OpenA base b a n t s w (h.symm.below hb) hn).mono fun _ _ hp => hp.to h hb
end
theorem lSame {L : List Int} {wa w0 : World} {A B : Option Addr} {c d : Nat} (base a b n : Nat) (s t : St) (hl : L.length ≤ 1000) (ha : IntsAt wa A L) (hab : Below wa.heap.size wa w0) (hb : IntsAt w0 B L) (h : Two base w0 a b n s t) : ∀ w, Below w0.heap.size w0 w →
    Calls Try.prog 13 #[.slice A L.length c, .slice B L.length d] w fun e w' => e = .returned (.bool true) ∧ Two base w' a b n s t ∧ Below base w0 w' := by
  intro w h2
  refine (same_yes w A B c d L (by omega) ((ha.below hab).below h2) (hb.below h2)).mono ?_
  rintro e w' ⟨he, h3⟩
  have h6 : Below w0.heap.size w0 w' := h2.trans (h3.mono h2.size)
  exact ⟨he, h.below h6, h6.mono h.size⟩
theorem seeV_told (t : ByteArray) (s : St) (h : t.size ≠ 0) : seeV (rightV ⟨5, 0, 0, ⟨#[]⟩, t⟩) s ⟨5, 0, 0, ⟨#[]⟩, t⟩ = (s, 0) := by
  have h1 : emptyV t = false := by
    unfold emptyV
    obtain ⟨⟨l⟩⟩ := t
    cases l with
    | nil => exact absurd rfl h
    | cons x r => rw [ByteArray.toList_eq]; rfl
  have h2 : rightV ⟨5, 0, 0, ⟨#[]⟩, t⟩ = true := by
    unfold rightV
    simp [h1, bareV, ByteArray.toList_eq]
  rw [h2]
  rfl
theorem seeV_note (t : ByteArray) (s : St) (h : t.size ≠ 0) : seeV (rightV ⟨6, 0, 0, ⟨#[]⟩, t⟩) s ⟨6, 0, 0, ⟨#[]⟩, t⟩ = (s, 0) := by
  have h2 : rightV ⟨6, 0, 0, ⟨#[]⟩, t⟩ = rightV ⟨5, 0, 0, ⟨#[]⟩, t⟩ := rfl
  have h3 := seeV_told t s h
  rw [h2]
  cases hr : rightV ⟨5, 0, 0, ⟨#[]⟩, t⟩ with
  | true => rfl
  | false => rw [hr] at h3; simp [seeV] at h3
theorem seeV_toldNone (s : St) : seeV (rightV ⟨5, 0, 0, ⟨#[]⟩, ⟨#[]⟩⟩) s ⟨5, 0, 0, ⟨#[]⟩, ⟨#[]⟩⟩ = (s, 1) := by
  rw [show rightV ⟨5, 0, 0, ⟨#[]⟩, ⟨#[]⟩⟩ = false by decide +kernel]
  rfl
theorem seeV_noteId (t : ByteArray) (s : St) : seeV (rightV ⟨6, 1, 0, ⟨#[]⟩, t⟩) s ⟨6, 1, 0, ⟨#[]⟩, t⟩ = (s, 1) := by
  rw [show rightV ⟨6, 1, 0, ⟨#[]⟩, t⟩ = false by unfold rightV; simp]
  rfl
def mn (a b : Int) : Int := if b < a then b else a
theorem cut20 (s : ByteArray) : ∃ (m : Int) (t : ByteArray), (∀ W ats ty, (Builtin.min_ ats ty #[.int .i64 (s.size : Int), .int .i64 20]).run Try.prog W = .ok (.int .i64 m) W) ∧ (∀ W, (Instr.slice 9 (.string s) none (some (.int .i64 m)) none).run Try.prog W = .ok (.string t) W) ∧ t.size ≤ 20 := by
  refine ⟨mn (s.size : Int) 20, s.extract 0 (mn (s.size : Int) 20).toNat, fun W ats ty => ?_, fun W => ?_, ?_⟩
  · rw [min_two, min2_int]
    rfl
  · exact run_slice_string_h (w := W) (ht := Try.underlying9) (kh := .i64) (h := mn (s.size : Int) 20) (h0 := by unfold mn; split <;> omega) (h2 := by unfold mn; split <;> omega)
  · rw [ByteArray.size_extract]
    unfold mn
    split <;> omega

set_option maxRecDepth 100000 in
set_option maxHeartbeats 8000000 in
theorem walk_WatchTexts (W : World) (a0 : Option Addr) (len0 cap0 : Nat) (u0 : len0 ≤ cap0) (_ : cap0 ≤ maxLen) (y0 : len0 * 56 ≤ 140737488351232) (xs : List Value) (l0 : xs.length = len0 * 5)
    (rd : Rds W a0 xs) (lf : ∀ (i j : Nat) (k : FK), i < len0 → [FK.int, FK.int, FK.int, FK.str, FK.str][j]? = some k → ∃ u, xs[i * 5 + j]? = some u ∧ leafOk k u) (a1 : ByteArray) (_ : a1.size ≤ maxLen) :
    Calls Try.prog 4 #[.slice a0 len0 cap0, .string a1] W fun e W' => e = .returned (.bool true) ∧ Below W.heap.size W W' := by
  have hC := outs_C y0 l0 rd lf
  have hOz : OutsAt W a0 (((List.range len0).map (out5 xs)).map toV) := OutsAt.of_C (by
    rw [show ((List.range len0).map (out5 xs)).length = len0 by simp]; exact hC)
  have hsz := outs_sizes lf
  obtain ⟨zs, hzs⟩ : ∃ zs, ((List.range len0).map (out5 xs)).map toV = zs := ⟨_, rfl⟩
  have hzl : zs.length = len0 := by rw [← hzs]; simp
  rw [hzs] at hOz hsz
  clear rd lf hzs l0 xs hC
  subst hzl
  have HC := Lib.hid hOz
  have HZ := Lib.hid hsz
  clear hOz hsz
  obtain ⟨m, t0, hmin, hsl, ht20⟩ := cut20 a1
  go_enter Try.func4, Try.ntmps4
  go_wp2_with fail
  refine (lives_any _).mono ?_
  rintro e w1 ⟨rfl, b1⟩
  have B1 := Lib.hid b1; clear b1
  go_wp2_with fail
  refine (few_any w1 a0 zs cap0 HZ.out y0 (HC.out.below B1.out)).mono ?_
  rintro e w2 ⟨Aa, ca, l, rfl, hka, hal, hsm, hO, b2⟩
  have B2 : Hid (Below W.heap.size W w2) := Lib.hid (B1.out.trans (b2.mono B1.out.size))
  have HO := Lib.hid hO
  have HS := Lib.hid hsm
  clear hO hsm b2 B1 HC HZ
  go_wp2_with fail
  refine (new_is w2).mono ?_
  rintro e w3 ⟨a, rfl, ha, b3⟩
  have HA := Lib.hid ha
  have B3 := Lib.hid b3
  clear ha b3
  go_wp2_with fail
  refine (new_is w3).mono ?_
  rintro e w4 ⟨b, rfl, hb, b4⟩
  have HT0 := Lib.hid (Two.made HA.out B3.out hb b4)
  have HB0 := Lib.hid (B3.out.trans (b4.mono B3.out.size))
  clear hb b4 HA B3 hmin hsl
  have hx1 : (⟨#[120]⟩ ++ t0 : ByteArray).size ≤ 1000 := by rw [ByteArray.size_append]; show 1 + t0.size ≤ 1000; omega
  have hx0 : (⟨#[120]⟩ ++ t0 : ByteArray).size ≠ 0 := by rw [ByteArray.size_append]; show 1 + t0.size ≠ 0; omega
  generalize (⟨#[120]⟩ ++ t0 : ByteArray) = t at hx1 hx0 ⊢
  have ZT := fun s => seeV_told t s hx0
  have ZN := fun s => seeV_note t s hx0
  have ZI := fun s => seeV_noteId t s
  go_wp2_with fail
  go_loopw [7] (fun i wr => ∃ (k : Nat) (s : St), k ≤ l.length ∧ i = .int .i64 k ∧ Two w2.heap.size wr a b (4 * k) s s ∧ Below w2.heap.size w2 wr) (fun i _ => l.length - (intOf i).toNat)
  case atStart => exact ⟨0, st0, Nat.zero_le _, rfl, HT0.out, HB0.out⟩
  case round =>
    obtain ⟨k, s, hk, rfl, hT, hB⟩ := hrel
    clear HT0 HB0
    have HT := Lib.hid hT
    have HB := Lib.hid hB
    clear hT hB
    by_cases hlt : k < l.length
    · obtain ⟨o, ho⟩ : ∃ o, l[k]? = some o := ⟨_, List.getElem?_eq_getElem hlt⟩
      have hso := HS.out o (List.mem_of_getElem? ho)
      obtain ⟨ad, rfl, _⟩ := (HO.out.below HB.out) k o ho
      have HK : Hid (∀ W, Below w2.heap.size w2 W → W.cell? (ad.add (k * 5)) = some (.int .i64 o.k) ∧ W.cell? ⟨(ad.add (k * 5)).block, (ad.add (k * 5)).off + 1, none⟩ = some (.int .i64 o.id) ∧
          W.cell? ⟨(ad.add (k * 5)).block, (ad.add (k * 5)).off + 2, none⟩ = some (.int .i64 o.fk) ∧ W.cell? ⟨(ad.add (k * 5)).block, (ad.add (k * 5)).off + 3, none⟩ = some (.string o.data) ∧ W.cell? ⟨(ad.add (k * 5)).block, (ad.add (k * 5)).off + 4, none⟩ = some (.string o.text)) := Lib.hid fun W hW => by
        obtain ⟨ad2, e2, hc⟩ := (HO.out.below hW) k o ho
        cases e2
        exact hc
      obtain ⟨⟨s', z⟩, hz⟩ : ∃ z, seeV (rightV o) s o = z := ⟨_, rfl⟩
      have t2 : (z != z) = false := by simp
      have hk0 : (0 : Int) ≤ (k : Int) := by omega
      have hk1 : (k : Int) < (l.length : Int) := by omega
      have hk63 : (k : Int) < 9223372036854775807 := by omega
      have M0 : Hid True := Lib.hid trivial
      go_wp2_with fail
      go_region_held3 (fun W => W.cell? (ad.add (k * 5)) = some (.int .i64 o.k) ∧ W.cell? ⟨(ad.add (k * 5)).block, (ad.add (k * 5)).off + 1, none⟩ = some (.int .i64 o.id) ∧
          W.cell? ⟨(ad.add (k * 5)).block, (ad.add (k * 5)).off + 2, none⟩ = some (.int .i64 o.fk) ∧ W.cell? ⟨(ad.add (k * 5)).block, (ad.add (k * 5)).off + 3, none⟩ = some (.string o.data) ∧ W.cell? ⟨(ad.add (k * 5)).block, (ad.add (k * 5)).off + 4, none⟩ = some (.string o.text))
        ((refine HK.out _ ?_; (repeat (first | with_reducible assumption | with_reducible exact HB.out | with_reducible exact Below.refl _ _ | with_reducible refine Below.drew ?_ | with_reducible refine below_drewN ?_ _))))
        (first | (have M1 := M0; clear M0; go_at_call 12; refine (two_seeA' _ a b _ _ _ _ _ ⟨5, 0, 0, ⟨#[]⟩, t⟩ _ _ HT.out (by (repeat (first | with_reducible assumption | with_reducible exact HB.out | with_reducible exact Below.refl _ _ | with_reducible refine Below.drew ?_ | with_reducible refine below_drewN ?_ _))) (by omega) hx1 (ZT s)).mono ?_; rintro e wv ⟨rfl, hT, hB⟩; replace HT := Lib.hid hT; replace HB := Lib.hid (HB.out.trans hB); clear hT hB) | (have M2 := M1; clear M1; go_at_call 12; refine (two_seeA' _ a b _ _ _ _ _ ⟨6, 0, 0, ⟨#[]⟩, t⟩ _ _ HT.out (by (repeat (first | with_reducible assumption | with_reducible exact HB.out | with_reducible exact Below.refl _ _ | with_reducible refine Below.drew ?_ | with_reducible refine below_drewN ?_ _))) (by omega) hx1 (ZN s)).mono ?_; rintro e wv ⟨rfl, hT, hB⟩; replace HT := Lib.hid hT; replace HB := Lib.hid (HB.out.trans hB); clear hT hB) | (have M3 := M2; clear M2; go_at_call 12; refine (two_seeA' _ a b _ _ _ _ _ o _ _ HT.out (by (repeat (first | with_reducible assumption | with_reducible exact HB.out | with_reducible exact Below.refl _ _ | with_reducible refine Below.drew ?_ | with_reducible refine below_drewN ?_ _))) (by omega) hso hz).mono ?_; rintro e wv ⟨rfl, hT, hB⟩; replace HT := Lib.hid hT; replace HB := Lib.hid (HB.out.trans hB); clear hT hB) | (have M4 := M3; clear M3; go_at_call 12; refine (two_seeB' _ a b _ _ _ _ _ o _ _ HT.out (by (repeat (first | with_reducible assumption | with_reducible exact HB.out | with_reducible exact Below.refl _ _ | with_reducible refine Below.drew ?_ | with_reducible refine below_drewN ?_ _))) (by omega) hso hz).mono ?_; rintro e wv ⟨rfl, hT, hB⟩; replace HT := Lib.hid hT; replace HB := Lib.hid (HB.out.trans hB); clear hT hB) | (have M5 := M4; clear M4; go_at_call 14; refine (lConnsA _ a b _ _ _ _ _ HT.out (by (repeat (first | with_reducible assumption | with_reducible exact HB.out | with_reducible exact Below.refl _ _ | with_reducible refine Below.drew ?_ | with_reducible refine below_drewN ?_ _))) (by omega)).mono ?_; rintro e wv ⟨A1, c1, rfl, hl, h1, hT, _, hB⟩; replace HT := Lib.hid hT; replace HB := Lib.hid (HB.out.trans hB); replace HI := Lib.hid h1; replace HL := Lib.hid hl; clear hT hB h1 hl) | (have M6 := M5; clear M5; go_at_call 14; refine (lConnsB _ a b _ _ _ _ _ HT.out (by (repeat (first | with_reducible assumption | with_reducible exact HB.out | with_reducible exact Below.refl _ _ | with_reducible refine Below.drew ?_ | with_reducible refine below_drewN ?_ _))) (by omega)).mono ?_; rintro e wv ⟨A2, c2, rfl, _, h1, hT, hb2, hB⟩; replace HT := Lib.hid hT; replace HB := Lib.hid (HB.out.trans hB); replace HI := Lib.hid (lSame (A := A1) (c := c1) (d := c2) _ a b _ _ _ HL.out HI.out hb2 h1 HT.out); clear hT hB h1 hb2) | (have M7 := M6; clear M6; go_at_call 13; refine (HI.out _ (by (repeat (first | with_reducible assumption | with_reducible exact HB.out | with_reducible exact Below.refl _ _ | with_reducible refine Below.drew ?_ | with_reducible refine below_drewN ?_ _)))).mono ?_; rintro e wv ⟨rfl, hT, hB⟩; replace HT := Lib.hid hT; replace HB := Lib.hid (HB.out.trans hB); clear hT hB) | (have M8 := M7; clear M7; go_at_call 15; refine (lOpenA _ a b _ _ _ _ _ HT.out (by (repeat (first | with_reducible assumption | with_reducible exact HB.out | with_reducible exact Below.refl _ _ | with_reducible refine Below.drew ?_ | with_reducible refine below_drewN ?_ _))) (by omega)).mono ?_; rintro e wv ⟨A1, c1, rfl, hl, h1, hT, _, hB⟩; replace HT := Lib.hid hT; replace HB := Lib.hid (HB.out.trans hB); replace HI := Lib.hid h1; replace HL := Lib.hid hl; clear hT hB h1 hl) | (have M9 := M8; clear M8; go_at_call 15; refine (lOpenB _ a b _ _ _ _ _ HT.out (by (repeat (first | with_reducible assumption | with_reducible exact HB.out | with_reducible exact Below.refl _ _ | with_reducible refine Below.drew ?_ | with_reducible refine below_drewN ?_ _))) (by omega)).mono ?_; rintro e wv ⟨A2, c2, rfl, _, h1, hT, hb2, hB⟩; replace HT := Lib.hid hT; replace HB := Lib.hid (HB.out.trans hB); replace HI := Lib.hid (lSame (A := A1) (c := c1) (d := c2) _ a b _ _ _ HL.out HI.out hb2 h1 HT.out); clear hT hB h1 hb2) | (have M10 := M9; clear M9; go_at_call 13; refine (HI.out _ (by (repeat (first | with_reducible assumption | with_reducible exact HB.out | with_reducible exact Below.refl _ _ | with_reducible refine Below.drew ?_ | with_reducible refine below_drewN ?_ _)))).mono ?_; rintro e wv ⟨rfl, hT, hB⟩; replace HT := Lib.hid hT; replace HB := Lib.hid (HB.out.trans hB); clear hT hB))
      all_goals
        go_wp2_with fail
        go_roundw
        case rel => exact ⟨k + 1, s', by omega, by push_cast; rfl, HT.out.mono (by omega), HB.out⟩
        case measure => simp [intOf]; omega
    · have hke : k = l.length := by omega
      subst hke
      have hn4 : 4 * l.length < 998 := by omega
      have C1 := Lib.hid (two_seeA' _ a b _ s s s 1 ⟨5, 0, 0, ⟨#[]⟩, ⟨#[]⟩⟩ wr wr HT.out (Below.refl _ _) (by omega) (by decide) (seeV_toldNone s))
      go_wp2_with fail
      refine C1.out.mono ?_
      rintro e w5 ⟨rfl, hT, hB⟩
      have HT2 := Lib.hid hT
      have HB2 := Lib.hid (HB.out.trans hB)
      clear hT hB C1 HT HB
      have C1 := Lib.hid (two_seeA' _ a b _ s s s 1 ⟨6, 1, 0, ⟨#[]⟩, t⟩ w5 w5 HT2.out (Below.refl _ _) (by omega) hx1 (ZI s))
      go_wp2_with fail
      refine C1.out.mono ?_
      rintro e w6 ⟨rfl, hT, hB⟩
      have HBB := Lib.hid (B2.out.trans ((HB2.out.trans hB).mono B2.out.size))
      clear hT hB C1 HT2 HB2 HS HO
      go_wp2_with fail
      go_ret
      exact ⟨rfl, HBB.out⟩
end Go.Proofs.Ytghjhcobmbobcaa.Wt
