/- few, with a property of the ids. -/
import Derived.Test.YtghjhcobmbobcaaWi
import Derived.Test.YtghjhcobmbobcaaSxA
import Derived.Deep.RegionHeld3
import Derived.Test.YtghjhcobmbobcaaSxB
import Derived.Test.YtghjhcobmbobcaaWv
import Derived.Test.YtghjhcobmbobcaaWg
namespace Go.Proofs.Ytghjhcobmbobcaa.Wt
open Go.RowKit Go.Proofs.Ytghjhcobmbobcaa.Mp Go.Proofs.Ytghjhcobmbobcaa

def FewPostP (P : Int → Prop) (w : World) (e : Ending) (w' : World) : Prop := ∃ A c l, e = .returned (.slice A l.length c) ∧ l.length ≤ c ∧ l.length ≤ 60 ∧ (∀ o ∈ l, o.text.size ≤ 1000 ∧ P o.id) ∧ OutsAt w' A l ∧ Below w.heap.size w w'
set_option maxHeartbeats 2000000 in
set_option maxRecDepth 100000 in
theorem fewp_any (P : Int → Prop) (w : World) (A : Option Addr) (zs : List OutV) (cap : Nat) (hz : ∀ o ∈ zs, o.data.size ≤ maxLen ∧ o.text.size ≤ maxLen) (_ : zs.length * 56 ≤ 140737488351232) (hp : ∀ o ∈ zs, P o.id) (hl : OutsAt w A zs) :
    Calls Try.prog 9 #[.slice A zs.length cap] w (FewPostP P w) := by
  have HL := Lib.hid hl
  have HZ := Lib.hid hz
  have HPP := Lib.hid hp
  clear hl hz hp
  obtain ⟨i0, hi, hz0, hz1, hz2⟩ := info_parts out_info
  go_enter Try.func9, Try.ntmps9
  go_wp2_with fail
  go_loopw [3, 4] (fun s i wr => ∃ (k : Nat) (l : List OutV) (A' : Option Addr) (c' : Nat), k ≤ zs.length ∧ k ≤ 60 ∧ s = .slice A' k c' ∧ i = .int .i64 k ∧ l.length = k ∧ Sl wr 36 5 (.slice A' k c') k (encO l) ∧ (∀ g, Value.ownBlock (.slice A' k c') = some g → w.heap.size ≤ g) ∧ (∀ o ∈ l, o.text.size ≤ 1000 ∧ P o.id) ∧ B w wr) (fun _ i _ => zs.length - (intOf i).toNat)
  case atStart => exact ⟨0, [], none, 0, Nat.zero_le _, Nat.zero_le _, rfl, rfl, rfl, Sl.nil _ _ _, fun g hg => by simp [Value.ownBlock] at hg, fun o ho => (by cases ho), B_refl _⟩
  case round =>
    obtain ⟨k, l, A', c', hk, hk1, rfl, rfl, hl, hS, hO, hT, hB⟩ := hrel
    have HS := Lib.hid hS
    have HO := Lib.hid hO
    have HB := Lib.hid hB
    have HLl := Lib.hid hl
    have HT := Lib.hid hT
    clear hS hO hB hl hT
    by_cases hlt : k < zs.length ∧ k < 60
    · obtain ⟨hlt, h60⟩ := hlt
      have h60' : (k : Int) < 60 := by omega
      obtain ⟨x, hx⟩ : ∃ x, zs[k]? = some x := ⟨_, List.getElem?_eq_getElem hlt⟩
      have hpx := HPP.out x (List.mem_of_getElem? hx)
      obtain ⟨hd, ht⟩ := HZ.out x (List.mem_of_getElem? hx)
      obtain ⟨xk, xi, xf, d, t⟩ := x
      obtain ⟨ad, rfl, c0, c1, c2, c3, c4⟩ := HL.out k _ hx
      replace c0 := (HB.out.cell (World.block_lt_of_cell? w _ c0)).trans c0
      replace c1 := (HB.out.cell (World.block_lt_of_cell? w _ c1)).trans c1
      replace c2 := (HB.out.cell (World.block_lt_of_cell? w _ c2)).trans c2
      replace c3 := (HB.out.cell (World.block_lt_of_cell? w _ c3)).trans c3
      replace c4 := (HB.out.cell (World.block_lt_of_cell? w _ c4)).trans c4
      dsimp only at c0 c1 c2 c3 c4 hd ht hpx
      clear hx
      unfold maxLen at hd ht
      go_wp2_with (at_builtin; refine wpList_append_sl _ rfl (.tmp 39) (.tmp 41) 22 rfl 36 i0 _ 5 56 Try.underlying22 hi hz0 hz1 hz2 rfl (by decide) (.slice A' k c') k (encO l) rfl ?hs ⟨_, 0, none⟩ 1 1 [.int .i64 xk, .int .i64 xi, .int .i64 xf, .string (d.extract 0 (min (d.size : Int) 30).toNat), .string (t.extract 0 (min (t.size : Int) 30).toNat)] rfl rfl ?hn ?h1 ?hm ?hb ?_)
      case hs => repeat (first | exact HS.out | refine Sl.alloc ?_ _)
      case hn => exact news5 (by simp) (by simp) (by simp) (by simp) (by simp)
      case h1 => simp [Value.oneCell']
      case hm => unfold maxLen; omega
      case hb => omega
      intro A2 c2 w2 hs2 ho2 hl2
      have HS2 := Lib.hid hs2
      have HO2 := Lib.hid ho2
      have HL2 := Lib.hid hl2
      clear hs2 ho2 hl2
      go_wp2_with fail
      go_roundw
      case rel =>
        refine ⟨k + 1, l ++ [⟨xk, xi, xf, (d.extract 0 (min (d.size : Int) 30).toNat), (t.extract 0 (min (t.size : Int) 30).toNat)⟩], A2, c2, by omega, by omega, rfl, by go_num, by simp [HLl.out], by rw [encO_append]; exact HS2.out, ?_, ?_, ?_⟩
        · exact own_later HL2.out HO.out (B_size (by (repeat (first | assumption | exact B_refl _ | refine B_drewN ?_ _ | refine B_drew ?_ | refine B_alloc ?_ _ | refine B_setCell ?_ (by first | (simp; done) | (simp; omega)) _ | refine B_trans ?_ (by assumption)))) : w.heap.size ≤ _)
        · intro o ho
          rcases List.mem_append.1 ho with ho | ho
          · exact HT.out o ho
          · cases List.mem_singleton.1 ho
            refine ⟨?_, hpx⟩
            show (t.extract 0 (min (t.size : Int) 30).toNat).size ≤ 1000
            rw [ByteArray.size_extract]
            omega
        · exact B_only (by (repeat (first | assumption | exact B_refl _ | refine B_drewN ?_ _ | refine B_drew ?_ | refine B_alloc ?_ _ | refine B_setCell ?_ (by first | (simp; done) | (simp; omega)) _ | refine B_trans ?_ (by assumption)))) HO2.out HO.out
      case measure => simp [intOf]; omega
    · rcases (show ¬ k < zs.length ∨ (k < zs.length ∧ ¬ (k : Int) < 60) by omega) with hn | ⟨hn, hn'⟩
      all_goals
        go_wp2_with fail
        go_ret
        refine ⟨A', c', l, by rw [HLl.out]; rfl, ?_, by rw [HLl.out]; exact hk1, HT.out, ?_, HB.out⟩
        · obtain ⟨_, _, e, h1, _⟩ := HS.out.slice
          injection e with _ _ e
          rw [HLl.out, e]; exact h1
        · exact OutsAt.of_Sl (c := c') (by rw [HLl.out]; exact HS.out)
end Go.Proofs.Ytghjhcobmbobcaa.Wt
namespace Go.Proofs.Ytghjhcobmbobcaa.Wt
open Go.RowKit Go.Proofs.Ytghjhcobmbobcaa
theorem rwvs {w : World} {v1 v2 v3 v4 v5 : Value} {r : RW} (h : RWV w v1 v2 v3 v4 v5 r) : ∃ A1 c1 A2 c2 A3 c3 A4 c4 A5 c5, v1 = .slice A1 r.first.length c1 ∧ v2 = .slice A2 r.idle.length c2 ∧ v3 = .slice A3 r.op.length c3 ∧ v4 = .slice A4 r.gr.length c4 ∧ v5 = .slice A5 r.en.length c5 := by
  obtain ⟨⟨A1, c1, rfl, -⟩, ⟨A2, c2, rfl, -⟩, ⟨A3, c3, rfl, -⟩, ⟨A4, c4, rfl, -⟩, ⟨A5, c5, rfl, -⟩⟩ := h
  exact ⟨_, _, _, _, _, _, _, _, _, _, rfl, rfl, rfl, rfl, rfl⟩
theorem rwvsN {w : World} {v1 v2 v3 v4 v5 : Value} {r : RW} (h : RWV w v1 v2 v3 v4 v5 r) : ∃ A1 n1 c1 A2 n2 c2 A3 n3 c3 A4 n4 c4 A5 n5 c5, v1 = .slice A1 n1 c1 ∧ v2 = .slice A2 n2 c2 ∧ v3 = .slice A3 n3 c3 ∧ v4 = .slice A4 n4 c4 ∧ v5 = .slice A5 n5 c5 := by
  obtain ⟨A1, c1, A2, c2, A3, c3, A4, c4, A5, c5, h⟩ := rwvs h
  exact ⟨_, _, _, _, _, _, _, _, _, _, _, _, _, _, _, h⟩
abbrev Z42 : Array Value := #[.int .i64 0, .slice none 0 0, .slice none 0 0, .slice none 0 0, .slice none 0 0, .slice none 0 0]
theorem RWV.far_b {w : World} {v1 v2 v3 v4 v5 : Value} {r : RW} {g : Nat} {cs : Array Value} (h : RWV w v1 v2 v3 v4 v5 r) (hb : Blk w g 42 cs) (i : Nat) (u : Value) : RWV (w.setCell ⟨g, i, none⟩ u) v1 v2 v3 v4 v5 r :=
  ⟨h.h1.far_t hb i u, h.h2.far_t hb i u, h.h3.far_t hb i u, h.h4.far_t hb i u, h.h5.far_t hb i u⟩
abbrev set6 (w : World) (g : Nat) (u0 u1 u2 u3 u4 u5 : Value) : World := (((((w.setCell ⟨g, 0, none⟩ u0).setCell ⟨g, 1, none⟩ u1).setCell ⟨g, 2, none⟩ u2).setCell ⟨g, 3, none⟩ u3).setCell ⟨g, 4, none⟩ u4).setCell ⟨g, 5, none⟩ u5
theorem store6 {w : World} {g : Nat} {a0 a1 a2 a3 a4 a5 : Value} (hb : Blk w g 42 #[a0, a1, a2, a3, a4, a5]) (u0 u1 u2 u3 u4 u5 : Value) :
    Blk (set6 w g u0 u1 u2 u3 u4 u5) g 42 #[u0, u1, u2, u3, u4, u5] ∧ (∀ v1 v2 v3 v4 v5 r, RWV w v1 v2 v3 v4 v5 r → RWV (set6 w g u0 u1 u2 u3 u4 u5) v1 v2 v3 v4 v5 r) ∧ ∀ w0, B w0 w → w0.heap.size ≤ g → B w0 (set6 w g u0 u1 u2 u3 u4 u5) := by
  have k0 := hb.set_ 0 u0
  have k1 := k0.set_ 1 u1
  have k2 := k1.set_ 2 u2
  have k3 := k2.set_ 3 u3
  have k4 := k3.set_ 4 u4
  refine ⟨by simpa using k4.set_ 5 u5, fun v1 v2 v3 v4 v5 r h => ?_, fun w0 h hg => ?_⟩
  · exact (((((h.far_b hb 0 u0).far_b k0 1 u1).far_b k1 2 u2).far_b k2 3 u3).far_b k3 4 u4).far_b k4 5 u5
  · exact B_setCell (B_setCell (B_setCell (B_setCell (B_setCell (B_setCell h hg _) hg _) hg _) hg _) hg _) hg _
theorem audit_end {tmps : Array Value} {W : World} {a b : Int} {Q : Ending → World → Prop} (h2 : tmps[2]? = some (.int .i64 a)) (h3 : tmps[3]? = some (.int .i64 b)) (hQ : Q (.returned (.tuple #[.int .i64 a, .int .i64 b])) W) :
    bodyPost Try.prog Try.f18 Q .ret { tmps := tmps, defers := [] } W := by
  refine bodyPost_ret (v := .tuple #[.int .i64 a, .int .i64 b]) ?_ rfl hQ
  simp [results, Try.results18, h2, h3, go_sem]
set_option maxRecDepth 100000 in
set_option maxHeartbeats 8000000 in
theorem refaudit_any (w : World) (a0 : Option Addr) (l : List OutV) (cap : Nat) (h60 : l.length ≤ 100) (hs : ∀ o ∈ l, o.text.size ≤ 1000) (h : OutsAt w a0 l) :
    Calls Try.prog 18 #[.slice a0 l.length cap] w fun e w' => e = .returned (.tuple #[.int .i64 (auditFrom rightV 0 st0 l).1, .int .i64 (auditFrom rightV 0 st0 l).2]) ∧ B w w' := by
  have HO := Lib.hid h
  have HS := Lib.hid hs
  have HAU := Lib.hid (show auditR rightV 0 rw0 (l.drop 0) = auditFrom rightV 0 st0 l from Knows.audit rightV l 0 st0 rw0 knows0)
  clear h hs
  generalize auditFrom rightV 0 st0 l = res at *
  obtain ⟨ri, rz⟩ := res
  go_enter Try.func18, Try.ntmps18
  go_wp2_with fail
  go_loopw [5, 6, 7] (fun s5 _ _ wr => ∃ (k : Nat) (s : St) (r : RW) (v1 v2 v3 v4 v5 : Value), k ≤ l.length ∧ s5 = .int .i64 k ∧ Hid (Knows s r ∧ Few r k ∧ auditR rightV k r (l.drop k) = (ri, rz)) ∧ Blk wr w.heap.size 42 #[.int .i64 r.top, v1, v2, v3, v4, v5] ∧ RWV wr v1 v2 v3 v4 v5 r ∧ B w wr) (fun s _ _ _ => l.length - (intOf s).toNat)
  case atStart => exact ⟨0, st0, rw0, .slice none 0 0, .slice none 0 0, .slice none 0 0, .slice none 0 0, .slice none 0 0, Nat.zero_le _, rfl, Lib.hid ⟨knows0, ⟨Nat.le_refl _, Nat.le_refl _, Nat.le_refl _, Nat.le_refl _, Nat.le_refl _⟩, HAU.out⟩, Blk.new _ _ _, ⟨⟨_, _, rfl, Sl.nil _ _ _⟩, ⟨_, _, rfl, Sl.nil _ _ _⟩, ⟨_, _, rfl, Sl.nil _ _ _⟩, ⟨_, _, rfl, Sl.nil _ _ _⟩, ⟨_, _, rfl, Sl.nil _ _ _⟩⟩, B_alloc (B_refl _) _⟩
  case round =>
    obtain ⟨k, s, r, v1, v2, v3, v4, v5, hk, rfl, hkn, hblk, hrv, hb⟩ := hrel
    obtain ⟨A1, c1, A2, c2, A3, c3, A4, c4, A5, c5, rfl, rfl, rfl, rfl, rfl⟩ := rwvs hrv
    have HKB := Lib.hid hblk
    have HRV := Lib.hid hrv
    have BR := Lib.hid hb
    clear hblk hrv hb HAU
    by_cases hlt : k < l.length
    · obtain ⟨o, ho⟩ : ∃ o, l[k]? = some o := ⟨_, List.getElem?_eq_getElem hlt⟩
      have hso := HS.out o (List.mem_of_getElem? ho)
      obtain ⟨ad, rfl, _⟩ := (HO.out.below BR.out) k o ho
      have HSEE := Lib.hid (fun W (hb : B wr W) => refsee_any W o _ _ _ _ _ r (by have := hkn.out.2.1; exact ⟨by have := this.l1; omega, by have := this.l2; omega, by have := this.l3; omega, by have := this.l4; omega, by have := this.l5; omega⟩) (hkn.out.1.apart o.id) (HRV.out.below hb) (by omega))
      have HCE : Hid (∀ W, B wr W → (W.cell? ⟨w.heap.size, 0, none⟩ = some (.int .i64 r.top) ∧ W.cell? ⟨w.heap.size, 1, none⟩ = some (.slice A1 r.first.length c1) ∧ W.cell? ⟨w.heap.size, 2, none⟩ = some (.slice A2 r.idle.length c2) ∧ W.cell? ⟨w.heap.size, 3, none⟩ = some (.slice A3 r.op.length c3) ∧ W.cell? ⟨w.heap.size, 4, none⟩ = some (.slice A4 r.gr.length c4) ∧ W.cell? ⟨w.heap.size, 5, none⟩ = some (.slice A5 r.en.length c5)) ∧
          W.cell? (ad.add (k * 5)) = some (.int .i64 o.k) ∧ W.cell? ⟨(ad.add (k * 5)).block, (ad.add (k * 5)).off + 1, none⟩ = some (.int .i64 o.id) ∧
          W.cell? ⟨(ad.add (k * 5)).block, (ad.add (k * 5)).off + 2, none⟩ = some (.int .i64 o.fk) ∧ W.cell? ⟨(ad.add (k * 5)).block, (ad.add (k * 5)).off + 3, none⟩ = some (.string o.data) ∧ W.cell? ⟨(ad.add (k * 5)).block, (ad.add (k * 5)).off + 4, none⟩ = some (.string o.text)) := Lib.hid fun W hW => by
        have hk2 := HKB.out.b hW
        obtain ⟨ad2, e2, hc⟩ := (HO.out.below (B_trans BR.out hW)) k o ho
        cases e2
        exact ⟨⟨hk2.cell 0, hk2.cell 1, hk2.cell 2, hk2.cell 3, hk2.cell 4, hk2.cell 5⟩, hc⟩
      have HNX := Lib.hid (show Knows (seeV (rightV o) s o).1 (seeR (rightV o) r o).1 ∧ Few (seeR (rightV o) r o).1 (k + 1) ∧ (if (seeR (rightV o) r o).2 = 0 then auditR rightV (k + 1) (seeR (rightV o) r o).1 (l.drop (k + 1)) else ((k : Int), (seeR (rightV o) r o).2)) = (ri, rz) from ⟨(hkn.out.1.see _ o).2, hkn.out.2.1.see _ o, by
        have := hkn.out.2.2
        rw [List.drop_eq_getElem_cons hlt, (List.getElem?_eq_some_iff.1 ho).2] at this
        exact this⟩)
      have hk0 : (0 : Int) ≤ (k : Int) := by omega
      have hk1 : (k : Int) < (l.length : Int) := by omega
      have hk63 : (k : Int) < 9223372036854775807 := by omega
      clear hkn
      have HB := Lib.hid (B_refl wr)
      unfold SeePost at HSEE
      generalize (seeV (rightV o) s o).1 = s' at HNX
      generalize seeR (rightV o) r o = rz' at HSEE HNX
      obtain ⟨r', z⟩ := rz'
      dsimp only at HNX HSEE
      go_wp2_with fail
      obtain ⟨⟨e0, e1, e2, e3, e4, e5⟩, f0, f1, f2, f3, f4⟩ := HCE.out wr (B_refl _)
      have hsz : w.heap.size < wr.heap.size := HKB.out.lt
      have hadz : (ad.add (k * 5)).block < wr.heap.size := World.block_lt_of_cell? wr _ f0
      go_cut [6, 7] from 14 to 22 (fun s6 s7 wx => ∃ (b6 : Nat) (x1 x2 x3 x4 x5 : Value), s6 = .pointer (some ⟨b6, 0, none⟩) ∧ s7 = .int .i64 z ∧ wr.heap.size ≤ b6 ∧ Blk wx b6 42 #[.int .i64 r'.top, x1, x2, x3, x4, x5] ∧ RWV wx x1 x2 x3 x4 x5 r' ∧ B wr wx)
      case first =>
        go_region_with ((go_at_call 16; refine (HSEE.out _ (by (repeat (first | with_reducible exact HB.out | with_reducible exact B_refl _ | with_reducible refine B_setCell ?_ (by first | (simp; done) | (simp; omega)) _ | with_reducible refine B_drewN ?_ _ | with_reducible refine B_drew ?_ | with_reducible refine B_alloc ?_ _)))).mono ?_; rintro e wv ⟨x1, x2, x3, x4, x5, rfl, hxv, hxb⟩; obtain ⟨B1, m1, d1, B2, m2, d2, B3, m3, d3, B4, m4, d4, B5, m5, d5, rfl, rfl, rfl, rfl, rfl⟩ := rwvsN hxv; replace HB := Lib.hid (show B wr wv from B_trans (by (repeat (first | with_reducible exact HB.out | with_reducible exact B_refl _ | with_reducible refine B_setCell ?_ (by first | (simp; done) | (simp; omega)) _ | with_reducible refine B_drewN ?_ _ | with_reducible refine B_drew ?_ | with_reducible refine B_alloc ?_ _))) hxb); have HXV := Lib.hid hxv; have hzv := HB.out.size; try (have hq := Blk.b (Blk.drew (Blk.new wr 42 Z42)) hxb; have hqf := fun i => hq.frozen i; have hql := hq.lt; have q0 := hq.cell 0; have q1 := hq.cell 1; have q2 := hq.cell 2; have q3 := hq.cell 3; have q4 := hq.cell 4; have q5 := hq.cell 5; simp at q0 q1 q2 q3 q4 q5; have HQ := Lib.hid hq; clear hq); clear hxv hxb HSEE))
        all_goals
          go_wp2_with fail
          go_meet
          first
            | exact ⟨_, _, _, _, _, _, rfl, rfl, HB.out.size, Blk.new _ _ _, HXV.out.below (B_alloc (B_refl _) _), B_alloc HB.out _⟩
            | exact ⟨_, _, _, _, _, _, rfl, rfl, Nat.le_refl _, (store6 HQ.out _ _ _ _ _ _).1, (store6 HQ.out _ _ _ _ _ _).2.1 _ _ _ _ _ _ HXV.out, (store6 HQ.out _ _ _ _ _ _).2.2 _ HB.out (Nat.le_refl _)⟩
      case rest =>
        obtain ⟨b6, x1, x2, x3, x4, x5, rfl, rfl, hb6, hk6, hv6, hbb⟩ := hcut
        obtain ⟨B1, m1, d1, B2, m2, d2, B3, m3, d3, B4, m4, d4, B5, m5, d5, rfl, rfl, rfl, rfl, rfl⟩ := rwvsN hv6
        have HK4 := Lib.hid (HKB.out.b hbb)
        have HV6 := Lib.hid hv6
        have HBB := Lib.hid (B_trans BR.out hbb)
        clear hv6 hbb HSEE e0 e1 e2 e3 e4 e5 f0 f1 f2 f3 f4 hadz HCE HB
        by_cases hz : z = 0
        · have t0 : (z != 0) = false := bne_eq_false_iff_eq.2 hz
          have HN2 := Lib.hid (show Knows s' r' ∧ Few r' (k + 1) ∧ auditR rightV (k + 1) r' (l.drop (k + 1)) = (ri, rz) from ⟨HNX.out.1, HNX.out.2.1, by have := HNX.out.2.2; rwa [if_pos hz] at this⟩)
          have g0 := hk6.cell 0
          have g1 := hk6.cell 1
          have g2 := hk6.cell 2
          have g3 := hk6.cell 3
          have g4 := hk6.cell 4
          have g5 := hk6.cell 5
          have hk4 := HK4.out
          have j0 := hk4.cell 0
          have j1 := hk4.cell 1
          have j2 := hk4.cell 2
          have j3 := hk4.cell 3
          have j4 := hk4.cell 4
          have j5 := hk4.cell 5
          have jf := fun i => hk4.frozen i
          have jl := hk4.lt
          simp at g0 g1 g2 g3 g4 g5 j0 j1 j2 j3 j4 j5
          clear hk6 hk4 hz HNX
          go_wp2_with fail
          go_roundw
          case rel => exact ⟨k + 1, s', r', _, _, _, _, _, by omega, by push_cast; rfl, HN2, (store6 HK4.out _ _ _ _ _ _).1, (store6 HK4.out _ _ _ _ _ _).2.1 _ _ _ _ _ _ HV6.out, (store6 HK4.out _ _ _ _ _ _).2.2 _ HBB.out (Nat.le_refl _)⟩
          case measure => simp [intOf]; omega
        · have t0 : (z != 0) = true := bne_iff_ne.2 hz
          have HN2 := Lib.hid (show ((k : Int), z) = (ri, rz) from by have := HNX.out.2.2; rwa [if_neg hz] at this)
          clear hk6 HNX hz
          go_wp2_with fail
          obtain ⟨e1, e2⟩ := Prod.mk.inj HN2.out
          exact audit_end (by rfl) (by rfl) ⟨by rw [← e1, ← e2], HBB.out⟩
    · obtain rfl : k = l.length := by omega
      have HN2 := Lib.hid (show ((-1 : Int), (0 : Int)) = (ri, rz) from by have := hkn.out.2.2; rwa [List.drop_length] at this)
      clear hkn
      go_wp2_with fail
      obtain ⟨e1, e2⟩ := Prod.mk.inj HN2.out
      exact audit_end (by rfl) (by rfl) ⟨by rw [← e1, ← e2], BR.out⟩
end Go.Proofs.Ytghjhcobmbobcaa.Wt
namespace Go.Proofs.Ytghjhcobmbobcaa.Wt
open Go.RowKit Go.Proofs.Ytghjhcobmbobcaa.Mp Go.Proofs.Ytghjhcobmbobcaa
def WfI (i : Int) : Prop := (Lit.int .i64 i).wf = true
structure WfR (r : RW) : Prop where
  l1 : ∀ i ∈ r.first, WfI i
  l2 : ∀ i ∈ r.idle, WfI i
  l3 : ∀ i ∈ r.op, WfI i
  l4 : ∀ i ∈ r.gr, WfI i
  l5 : ∀ i ∈ r.en, WfI i
theorem wfR0 : WfR rw0 := ⟨fun _ h => (by cases h), fun _ h => (by cases h), fun _ h => (by cases h), fun _ h => (by cases h), fun _ h => (by cases h)⟩
theorem WfR.see {r : RW} (h : WfR r) (m : Bool) (o : OutV) (ho : WfI o.id) : WfR (seeR m r o).1 := by
  have hm : ∀ (l : List Int), (∀ i ∈ l, WfI i) → ∀ i ∈ l ++ [o.id], WfI i := fun l hl i hi => by
    rcases List.mem_append.1 hi with hi | hi
    · exact hl i hi
    · rw [List.mem_singleton.1 hi]; exact ho
  have hl : ∀ (l : List Int), (∀ i ∈ l, WfI i) → ∀ i ∈ less l o.id, WfI i := fun l hl i hi => hl i ((mem_less l o.id i).1 hi).1
  have h1 := h.l1; have h2 := h.l2; have h3 := h.l3; have h4 := h.l4; have h5 := h.l5
  unfold seeR
  split
  · exact h
  · split
    · unfold frontR
      repeat' split
      all_goals first | exact h | exact ⟨h1, h2, h3, hm _ h4, h5⟩
    · split
      · split
        · exact h
        · unfold backR
          repeat' split
          all_goals first | exact h | exact ⟨hl _ h1, hm _ h2, h3, h4, h5⟩ | exact ⟨h1, hl _ h2, hm _ h3, h4, h5⟩ | exact ⟨h1, hm _ h2, hl _ h3, h4, h5⟩
      · split
        · split
          · exact h
          · exact ⟨hm _ h1, h2, h3, h4, h5⟩
        · split
          · split
            · exact h
            · exact ⟨hl _ h1, hl _ h2, hl _ h3, h4, h5⟩
          · split
            · split
              · exact h
              · exact ⟨h1, h2, h3, h4, hm _ h5⟩
            · exact h
section
variable {s : St} {r : RW}
theorem Knows.cEq (h : Knows s r) (hf : Few r 300) (hw : WfR r) : connsL soAll s = sortI (r.first ++ r.idle ++ r.op) := connsL_eq ⟨by
    have h1 := hf.l1; have h2 := hf.l2; have h3 := hf.l3
    rw [List.length_append, List.length_append]; omega, h.conns.1, fun i hi => by
    rcases List.mem_append.1 hi with hi | hi
    · rcases List.mem_append.1 hi with hi | hi
      · exact hw.l1 i hi
      · exact hw.l2 i hi
    · exact hw.l3 i hi, fun i _ => by rw [h.conns.2 i]; simp [soAll]⟩
theorem Knows.oEq (h : Knows s r) (hf : Few r 300) (hw : WfR r) : connsL soOpen s = sortI r.op := connsL_eq ⟨by
    have h3 := hf.l3
    omega, h.n3, hw.l3, fun i _ => by
    rw [h.op i]
    generalize s.nx i = x
    match x with
    | 0 => simp
    | 1 => simp [soOpen]
    | 2 => simp [soOpen]
    | 3 => simp [soOpen]; rfl⟩
theorem Knows.eEq (h : Knows s r) (hf : Few r 300) (hw : WfR r) : ofL soEnded s = sortI r.en := ofL_eq ⟨by
    have h3 := hf.l5
    omega, h.n5, hw.l5, fun i _ => by rw [h.en i]; rfl⟩
theorem Knows.gEq (h : Knows s r) (hf : Few r 300) (hw : WfR r) : ofL soGreeted s = sortI (still r) := ofL_eq ⟨by
    have h3 := hf.l4
    exact Nat.le_trans (List.length_filter_le _ _) (by omega), h.n4.filter _, fun i hi => hw.l4 i (List.mem_filter.1 hi).1, fun i _ => by
    have hg := h.gr i
    have he := h.en i
    unfold still
    rw [List.mem_filter, hg]
    by_cases e : i ∈ r.en
    · simp [soGreeted, e, he.1 e]
    · have : (s.cl i).2 = false := by
        cases hc : (s.cl i).2 with
        | false => rfl
        | true => exact absurd (he.2 hc) e
      simp [soGreeted, e, this]⟩
end
end Go.Proofs.Ytghjhcobmbobcaa.Wt
namespace Go.Proofs.Ytghjhcobmbobcaa.Wt
open Go.RowKit Go.Proofs.Ytghjhcobmbobcaa.Mp Go.Proofs.Ytghjhcobmbobcaa
def LA (L : List Int) (W : World) (e : Ending) (w' : World) : Prop := ∃ A c, e = .returned (.slice A L.length c) ∧ L.length ≤ 1000 ∧ IntsAt w' A L ∧ B W w'
def LB (L : List Int) (W : World) (e : Ending) (w' : World) : Prop := ∃ A c, e = .returned (.slice A L.length c) ∧ IntsAt w' A L ∧ B W w'
theorem ToL.lb {L : List Int} {W w' : World} {e : Ending} (h : ToL W L e w') : LB L W e w' := by
  obtain ⟨A, c, n, rfl, ⟨A', c', e2, hs⟩, _, hb⟩ := h
  injection e2 with e3 e4 e5
  subst e3 e4 e5
  exact ⟨_, _, rfl, ints_of_Sl hs rfl, hb⟩
theorem ListPost.la {L : List Int} {W w' : World} {e : Ending} (h : ListPost L W e w') : LA L W e w' := by
  obtain ⟨A, c, h1, _, h3, h4, h5⟩ := h
  exact ⟨A, c, h1, h3, h4, h5⟩
theorem same_later {L : List Int} {w : World} {A C : Option Addr} {c d : Nat} (hl : L.length ≤ 1000) (ha : IntsAt w A L) (hb : IntsAt w C L) : ∀ W, B w W →
    Calls Try.prog 13 #[.slice A L.length c, .slice C L.length d] W fun e w' => e = .returned (.bool true) ∧ Below W.heap.size W w' := fun _ h => same_list hl (ha.below h) (hb.below h)
set_option maxRecDepth 100000 in
set_option maxHeartbeats 8000000 in
theorem like_any (base : Bs) (b n : Nat) (s : St) (r : RW) (v1 v2 v3 v4 v5 : Value) (w : World) (h : WAt base w b n s) (hn : n < 1000) (hk : Knows s r) (hf : Few r 300) (hw : WfR r) (hv : RWV w v1 v2 v3 v4 v5 r) :
    Calls Try.prog 17 #[.pointer (some ⟨b, 0, none⟩), .agg #[.int .i64 r.top, v1, v2, v3, v4, v5]] w fun e w' => e = .returned (.bool true) ∧ B w w' := by
  have hf1 : Few r 1000 := ⟨by have := hf.l1; omega, by have := hf.l2; omega, by have := hf.l3; omega, by have := hf.l4; omega, by have := hf.l5; omega⟩
  have l3 := hf.l3
  have l5 := hf.l5
  obtain ⟨W0, hW0⟩ : ∃ W0, W0 = w.alloc (.cells #[.int .i64 r.top, v1, v2, v3, v4, v5] 42) := ⟨_, rfl⟩
  have hb0 : B w W0 := by rw [hW0]; exact B_alloc (B_refl w) _
  have HB0 := Lib.hid hb0
  have hv0 := hv.below hb0
  have h0 := h.below hb0
  have HC1 := Lib.hid (fun W (hb : B W0 W) => (Conns_any base b n s W (h0.below hb) hn).mono fun _ _ hp => hp.list.la)
  have HC2 := Lib.hid (fun W (hb : B W0 W) => (refconns_any W v1 v2 v3 v4 v5 r hf1 (hv0.below hb) hk.conns.1).mono fun _ _ hp => hp.lb)
  rw [← hk.cEq hf hw] at HC2
  have HC3 := Lib.hid (fun W (hb : B W0 W) => (Open_any base b n s W (h0.below hb) hn).mono fun _ _ hp => hp.list.la)
  have HC5 := Lib.hid (fun W (hb : B W0 W) => (Ended_any base b n s W (h0.below hb) hn).mono fun _ _ hp => hp.list.la)
  have HC7 := Lib.hid (fun W (hb : B W0 W) => (Greeted_any base b n s W (h0.below hb) hn).mono fun _ _ hp => hp.list.la)
  have HC8 := Lib.hid (fun W (hb : B W0 W) => (refgreeted_any W v1 v2 v3 v4 v5 r hf1 (hv0.below hb) hk.n4).mono fun _ _ hp => hp.lb)
  rw [← hk.gEq hf hw] at HC8
  have HKB := Lib.hid (show Blk W0 w.heap.size 42 #[.int .i64 r.top, v1, v2, v3, v4, v5] by rw [hW0]; exact Blk.new _ _ _)
  obtain ⟨A1, c1, A2, c2, A3, c3, A4, c4, A5, c5, rfl, rfl, rfl, rfl, rfl⟩ := rwvs hv0
  have HC4 := Lib.hid (fun W (hb : B W0 W) => (sorted_n W A3 c3 _ r.op rfl (by omega) hk.n3 (by obtain ⟨_, _, e, hs⟩ := hv0.h3; exact hs.b hb)).mono fun _ _ hp => hp.lb)
  rw [← hk.oEq hf hw] at HC4
  have HC6 := Lib.hid (fun W (hb : B W0 W) => (sorted_n W A5 c5 _ r.en rfl (by omega) hk.n5 (by obtain ⟨_, _, e, hs⟩ := hv0.h5; exact hs.b hb)).mono fun _ _ hp => hp.lb)
  rw [← hk.eEq hf hw] at HC6
  have HCE := Lib.hid (fun W (hW : B W0 W) => (show W.cell? ⟨w.heap.size, 0, none⟩ = some (.int .i64 r.top) ∧ W.cell? ⟨w.heap.size, 1, none⟩ = some (.slice A1 r.first.length c1) ∧ W.cell? ⟨w.heap.size, 2, none⟩ = some (.slice A2 r.idle.length c2) ∧ W.cell? ⟨w.heap.size, 3, none⟩ = some (.slice A3 r.op.length c3) ∧ W.cell? ⟨w.heap.size, 4, none⟩ = some (.slice A4 r.gr.length c4) ∧ W.cell? ⟨w.heap.size, 5, none⟩ = some (.slice A5 r.en.length c5) from
    ⟨(HKB.out.b hW).cell 0, (HKB.out.b hW).cell 1, (HKB.out.b hW).cell 2, (HKB.out.b hW).cell 3, (HKB.out.b hW).cell 4, (HKB.out.b hW).cell 5⟩))
  clear hk hf hw hv hv0 h0 h hb0 hf1
  unfold LA at HC1 HC3 HC5 HC7
  unfold LB at HC2 HC4 HC6 HC8
  generalize connsL soAll s = L1 at *
  generalize connsL soOpen s = L2 at *
  generalize ofL soEnded s = L3 at *
  generalize ofL soGreeted s = L4 at *
  have HW := Lib.hid hW0
  clear hW0
  have M0 : Hid True := Lib.hid trivial
  have HI : Hid True := Lib.hid trivial
  have HL : Hid True := Lib.hid trivial
  have HB := Lib.hid (B_refl W0)
  go_enter Try.func17, Try.ntmps17
  go_wp2_with fail
  rw [← HW.out]
  go_region_held3 (fun W => W.cell? ⟨w.heap.size, 0, none⟩ = some (.int .i64 r.top) ∧ W.cell? ⟨w.heap.size, 1, none⟩ = some (.slice A1 r.first.length c1) ∧ W.cell? ⟨w.heap.size, 2, none⟩ = some (.slice A2 r.idle.length c2) ∧ W.cell? ⟨w.heap.size, 3, none⟩ = some (.slice A3 r.op.length c3) ∧ W.cell? ⟨w.heap.size, 4, none⟩ = some (.slice A4 r.gr.length c4) ∧ W.cell? ⟨w.heap.size, 5, none⟩ = some (.slice A5 r.en.length c5))
    ((refine HCE.out _ ?_; (repeat (first | with_reducible exact HB.out | with_reducible exact B_refl _ | with_reducible refine B_setCell ?_ (by first | (simp; done) | (simp; omega)) _ | with_reducible refine B_drewN ?_ _ | with_reducible refine B_drew ?_ | with_reducible refine B_alloc ?_ _))))
    (first | (have M1 := M0; clear M0; go_at_call 14; refine (HC1.out _ (by (repeat (first | with_reducible exact HB.out | with_reducible exact B_refl _ | with_reducible refine B_setCell ?_ (by first | (simp; done) | (simp; omega)) _ | with_reducible refine B_drewN ?_ _ | with_reducible refine B_drew ?_ | with_reducible refine B_alloc ?_ _)))).mono ?_; rintro e wv ⟨A1, c1, rfl, hl, hi, hb⟩; replace HB := Lib.hid (show B W0 wv from B_trans (by (repeat (first | with_reducible exact HB.out | with_reducible exact B_refl _ | with_reducible refine B_setCell ?_ (by first | (simp; done) | (simp; omega)) _ | with_reducible refine B_drewN ?_ _ | with_reducible refine B_drew ?_ | with_reducible refine B_alloc ?_ _))) hb); replace HI := Lib.hid hi; replace HL := Lib.hid hl; clear hi hb hl) | (have M2 := M1; clear M1; go_at_call 33; refine (HC2.out _ (by (repeat (first | with_reducible exact HB.out | with_reducible exact B_refl _ | with_reducible refine B_setCell ?_ (by first | (simp; done) | (simp; omega)) _ | with_reducible refine B_drewN ?_ _ | with_reducible refine B_drew ?_ | with_reducible refine B_alloc ?_ _)))).mono ?_; rintro e wv ⟨A2, c2, rfl, hi, hb⟩; replace HB := Lib.hid (show B W0 wv from B_trans (by (repeat (first | with_reducible exact HB.out | with_reducible exact B_refl _ | with_reducible refine B_setCell ?_ (by first | (simp; done) | (simp; omega)) _ | with_reducible refine B_drewN ?_ _ | with_reducible refine B_drew ?_ | with_reducible refine B_alloc ?_ _))) hb); replace HI := Lib.hid (same_later (c := c1) (d := c2) HL.out ((HI.out.below (by (repeat (first | with_reducible exact HB.out | with_reducible exact B_refl _ | with_reducible refine B_setCell ?_ (by first | (simp; done) | (simp; omega)) _ | with_reducible refine B_drewN ?_ _ | with_reducible refine B_drew ?_ | with_reducible refine B_alloc ?_ _)))).below hb) hi); clear hi hb) | (have M3 := M2; clear M2; go_at_call 13; refine (HI.out _ (by (repeat (first | with_reducible exact HB.out | with_reducible exact B_refl _ | with_reducible refine B_setCell ?_ (by first | (simp; done) | (simp; omega)) _ | with_reducible refine B_drewN ?_ _ | with_reducible refine B_drew ?_ | with_reducible refine B_alloc ?_ _)))).mono ?_; rintro e wv ⟨rfl, hb⟩; replace HB := Lib.hid (show B W0 wv from B_trans (by (repeat (first | with_reducible exact HB.out | with_reducible exact B_refl _ | with_reducible refine B_setCell ?_ (by first | (simp; done) | (simp; omega)) _ | with_reducible refine B_drewN ?_ _ | with_reducible refine B_drew ?_ | with_reducible refine B_alloc ?_ _))) hb); clear hb) | (have M4 := M3; clear M3; go_at_call 15; refine (HC3.out _ (by (repeat (first | with_reducible exact HB.out | with_reducible exact B_refl _ | with_reducible refine B_setCell ?_ (by first | (simp; done) | (simp; omega)) _ | with_reducible refine B_drewN ?_ _ | with_reducible refine B_drew ?_ | with_reducible refine B_alloc ?_ _)))).mono ?_; rintro e wv ⟨A1, c1, rfl, hl, hi, hb⟩; replace HB := Lib.hid (show B W0 wv from B_trans (by (repeat (first | with_reducible exact HB.out | with_reducible exact B_refl _ | with_reducible refine B_setCell ?_ (by first | (simp; done) | (simp; omega)) _ | with_reducible refine B_drewN ?_ _ | with_reducible refine B_drew ?_ | with_reducible refine B_alloc ?_ _))) hb); replace HI := Lib.hid hi; replace HL := Lib.hid hl; clear hi hb hl) | (have M5 := M4; clear M4; go_at_call 34; refine (HC4.out _ (by (repeat (first | with_reducible exact HB.out | with_reducible exact B_refl _ | with_reducible refine B_setCell ?_ (by first | (simp; done) | (simp; omega)) _ | with_reducible refine B_drewN ?_ _ | with_reducible refine B_drew ?_ | with_reducible refine B_alloc ?_ _)))).mono ?_; rintro e wv ⟨A2, c2, rfl, hi, hb⟩; replace HB := Lib.hid (show B W0 wv from B_trans (by (repeat (first | with_reducible exact HB.out | with_reducible exact B_refl _ | with_reducible refine B_setCell ?_ (by first | (simp; done) | (simp; omega)) _ | with_reducible refine B_drewN ?_ _ | with_reducible refine B_drew ?_ | with_reducible refine B_alloc ?_ _))) hb); replace HI := Lib.hid (same_later (c := c1) (d := c2) HL.out ((HI.out.below (by (repeat (first | with_reducible exact HB.out | with_reducible exact B_refl _ | with_reducible refine B_setCell ?_ (by first | (simp; done) | (simp; omega)) _ | with_reducible refine B_drewN ?_ _ | with_reducible refine B_drew ?_ | with_reducible refine B_alloc ?_ _)))).below hb) hi); clear hi hb) | (have M6 := M5; clear M5; go_at_call 13; refine (HI.out _ (by (repeat (first | with_reducible exact HB.out | with_reducible exact B_refl _ | with_reducible refine B_setCell ?_ (by first | (simp; done) | (simp; omega)) _ | with_reducible refine B_drewN ?_ _ | with_reducible refine B_drew ?_ | with_reducible refine B_alloc ?_ _)))).mono ?_; rintro e wv ⟨rfl, hb⟩; replace HB := Lib.hid (show B W0 wv from B_trans (by (repeat (first | with_reducible exact HB.out | with_reducible exact B_refl _ | with_reducible refine B_setCell ?_ (by first | (simp; done) | (simp; omega)) _ | with_reducible refine B_drewN ?_ _ | with_reducible refine B_drew ?_ | with_reducible refine B_alloc ?_ _))) hb); clear hb) | (have M7 := M6; clear M6; go_at_call 19; refine (HC5.out _ (by (repeat (first | with_reducible exact HB.out | with_reducible exact B_refl _ | with_reducible refine B_setCell ?_ (by first | (simp; done) | (simp; omega)) _ | with_reducible refine B_drewN ?_ _ | with_reducible refine B_drew ?_ | with_reducible refine B_alloc ?_ _)))).mono ?_; rintro e wv ⟨A1, c1, rfl, hl, hi, hb⟩; replace HB := Lib.hid (show B W0 wv from B_trans (by (repeat (first | with_reducible exact HB.out | with_reducible exact B_refl _ | with_reducible refine B_setCell ?_ (by first | (simp; done) | (simp; omega)) _ | with_reducible refine B_drewN ?_ _ | with_reducible refine B_drew ?_ | with_reducible refine B_alloc ?_ _))) hb); replace HI := Lib.hid hi; replace HL := Lib.hid hl; clear hi hb hl) | (have M8 := M7; clear M7; go_at_call 34; refine (HC6.out _ (by (repeat (first | with_reducible exact HB.out | with_reducible exact B_refl _ | with_reducible refine B_setCell ?_ (by first | (simp; done) | (simp; omega)) _ | with_reducible refine B_drewN ?_ _ | with_reducible refine B_drew ?_ | with_reducible refine B_alloc ?_ _)))).mono ?_; rintro e wv ⟨A2, c2, rfl, hi, hb⟩; replace HB := Lib.hid (show B W0 wv from B_trans (by (repeat (first | with_reducible exact HB.out | with_reducible exact B_refl _ | with_reducible refine B_setCell ?_ (by first | (simp; done) | (simp; omega)) _ | with_reducible refine B_drewN ?_ _ | with_reducible refine B_drew ?_ | with_reducible refine B_alloc ?_ _))) hb); replace HI := Lib.hid (same_later (c := c1) (d := c2) HL.out ((HI.out.below (by (repeat (first | with_reducible exact HB.out | with_reducible exact B_refl _ | with_reducible refine B_setCell ?_ (by first | (simp; done) | (simp; omega)) _ | with_reducible refine B_drewN ?_ _ | with_reducible refine B_drew ?_ | with_reducible refine B_alloc ?_ _)))).below hb) hi); clear hi hb) | (have M9 := M8; clear M8; go_at_call 13; refine (HI.out _ (by (repeat (first | with_reducible exact HB.out | with_reducible exact B_refl _ | with_reducible refine B_setCell ?_ (by first | (simp; done) | (simp; omega)) _ | with_reducible refine B_drewN ?_ _ | with_reducible refine B_drew ?_ | with_reducible refine B_alloc ?_ _)))).mono ?_; rintro e wv ⟨rfl, hb⟩; replace HB := Lib.hid (show B W0 wv from B_trans (by (repeat (first | with_reducible exact HB.out | with_reducible exact B_refl _ | with_reducible refine B_setCell ?_ (by first | (simp; done) | (simp; omega)) _ | with_reducible refine B_drewN ?_ _ | with_reducible refine B_drew ?_ | with_reducible refine B_alloc ?_ _))) hb); clear hb) | (have M10 := M9; clear M9; go_at_call 20; refine (HC7.out _ (by (repeat (first | with_reducible exact HB.out | with_reducible exact B_refl _ | with_reducible refine B_setCell ?_ (by first | (simp; done) | (simp; omega)) _ | with_reducible refine B_drewN ?_ _ | with_reducible refine B_drew ?_ | with_reducible refine B_alloc ?_ _)))).mono ?_; rintro e wv ⟨A1, c1, rfl, hl, hi, hb⟩; replace HB := Lib.hid (show B W0 wv from B_trans (by (repeat (first | with_reducible exact HB.out | with_reducible exact B_refl _ | with_reducible refine B_setCell ?_ (by first | (simp; done) | (simp; omega)) _ | with_reducible refine B_drewN ?_ _ | with_reducible refine B_drew ?_ | with_reducible refine B_alloc ?_ _))) hb); replace HI := Lib.hid hi; replace HL := Lib.hid hl; clear hi hb hl) | (have M11 := M10; clear M10; go_at_call 35; refine (HC8.out _ (by (repeat (first | with_reducible exact HB.out | with_reducible exact B_refl _ | with_reducible refine B_setCell ?_ (by first | (simp; done) | (simp; omega)) _ | with_reducible refine B_drewN ?_ _ | with_reducible refine B_drew ?_ | with_reducible refine B_alloc ?_ _)))).mono ?_; rintro e wv ⟨A2, c2, rfl, hi, hb⟩; replace HB := Lib.hid (show B W0 wv from B_trans (by (repeat (first | with_reducible exact HB.out | with_reducible exact B_refl _ | with_reducible refine B_setCell ?_ (by first | (simp; done) | (simp; omega)) _ | with_reducible refine B_drewN ?_ _ | with_reducible refine B_drew ?_ | with_reducible refine B_alloc ?_ _))) hb); replace HI := Lib.hid (same_later (c := c1) (d := c2) HL.out ((HI.out.below (by (repeat (first | with_reducible exact HB.out | with_reducible exact B_refl _ | with_reducible refine B_setCell ?_ (by first | (simp; done) | (simp; omega)) _ | with_reducible refine B_drewN ?_ _ | with_reducible refine B_drew ?_ | with_reducible refine B_alloc ?_ _)))).below hb) hi); clear hi hb) | (have M12 := M11; clear M11; go_at_call 13; refine (HI.out _ (by (repeat (first | with_reducible exact HB.out | with_reducible exact B_refl _ | with_reducible refine B_setCell ?_ (by first | (simp; done) | (simp; omega)) _ | with_reducible refine B_drewN ?_ _ | with_reducible refine B_drew ?_ | with_reducible refine B_alloc ?_ _)))).mono ?_; rintro e wv ⟨rfl, hb⟩; replace HB := Lib.hid (show B W0 wv from B_trans (by (repeat (first | with_reducible exact HB.out | with_reducible exact B_refl _ | with_reducible refine B_setCell ?_ (by first | (simp; done) | (simp; omega)) _ | with_reducible refine B_drewN ?_ _ | with_reducible refine B_drew ?_ | with_reducible refine B_alloc ?_ _))) hb); clear hb))
  all_goals
    go_wp2_with fail
    go_ret
    exact ⟨rfl, B_trans HB0.out HB.out⟩
end Go.Proofs.Ytghjhcobmbobcaa.Wt
namespace Go.Proofs.Ytghjhcobmbobcaa.Wt
open Go.RowKit Go.Proofs.Ytghjhcobmbobcaa.Mp Go.Proofs.Ytghjhcobmbobcaa
/-- not a watch's own cells -/
def Other (t : TypeId) : Prop := t ≠ 51
theorem map_not_cells {α R} {E : Elem α R} {P : Program} {k : TypeId} {w : World} {b n : Nat} {f : Int → α} (h : MapOf E P k w b n f) {t : TypeId} {cs : Array Value} : ¬ Blk w b t cs := fun hb => by
  obtain ⟨D, ⟨es, clock, hm, _⟩, _⟩ := h
  unfold Blk at hb
  rw [hb] at hm
  cases hm
theorem WAt.apart {base : Bs} {w : World} {b n : Nat} {s : St} (h : WAt base w b n s) : ∃ mb cb, w.heap[b]? = some (.cells #[.int .i64 s.top, .map (some mb), .map (some cb)] 51 (0, 0)) ∧
    MapOf eN Try.prog 3 w mb n s.nx ∧ MapOf pair Try.prog 3 w cb n s.cl ∧ base ≤ b ∧ base ≤ mb ∧ base ≤ cb ∧ b ≠ mb ∧ b ≠ cb ∧ mb ≠ cb ∧ ∀ g t cs, Blk w g t cs → Other t → g ≠ b ∧ g ≠ mb ∧ g ≠ cb := by
  obtain ⟨mb, cb, h1, h2, h3, h4, h5, h6, h7, h8, h9, _⟩ := h
  refine ⟨mb, cb, h1, h2, h3, h4, h5, h6, h7, h8, h9, fun g t cs hb ht => ⟨?_, ?_, ?_⟩⟩
  · rintro rfl
    unfold Blk at hb
    rw [h1] at hb
    injection hb with hb
    injection hb with e1 e2
    exact ht e2.symm
  · rintro rfl; exact map_not_cells h2 hb
  · rintro rfl; exact map_not_cells h3 hb
theorem watch_see (lo : Nat) (b n : Nat) (s s' : St) (z : Int) (o : OutV) (w wb : World) (h : WAt ⟨lo, fun _ => False, wb⟩ w b n s) (hn : n < 1000) (hs : o.text.size ≤ 1000) (hz : seeV (rightV o) s o = (s', z)) :
    Calls Try.prog 12 #[.pointer (some ⟨b, 0, none⟩), outArg o] w fun e w' => e = .returned (.int .i64 z) ∧ WAt ⟨lo, fun _ => False, wb⟩ w' b (n + 1) s' ∧ Below lo w w' ∧ ∀ g t cs, Blk w g t cs → Other t → Blk w' g t cs := by
  obtain ⟨mb, cb, h1, h2, h3, h4, h5, h6, h7, h8, h9, hx⟩ := h.apart
  have hA : WAt ⟨lo, fun g => lo ≤ g ∧ ∃ t cs, Blk w g t cs ∧ Other t, w⟩ w b n s := ⟨mb, cb, h1, h2, h3, h4, h5, h6, h7, h8, h9, fun k ⟨hl, t, cs, hb, ht⟩ => by
    obtain ⟨e1, e2, e3⟩ := hx k t cs hb ht
    exact ⟨hl, hb.lt, rfl, e1, e2, e3⟩⟩
  refine (see_right _ b n s o w hA hn hs).mono ?_
  rw [hz]
  rintro e w' ⟨he, ⟨mb', cb', k1, k2, k3, k4, k5, k6, k7, k8, k9, kx⟩, hbb⟩
  refine ⟨he, ⟨mb', cb', k1, k2, k3, k4, k5, k6, k7, k8, k9, fun k hk => hk.elim⟩, hbb, fun g t cs hb ht => ?_⟩
  rcases Nat.lt_or_ge g lo with hlt | hge
  · exact (hbb.block g hlt).trans hb
  · exact (kx g ⟨hge, t, cs, hb, ht⟩).2.2.1.trans hb
theorem WAt.setOther {lo : Nat} {w wb : World} {b n g i : Nat} {s : St} {t : TypeId} {cs : Array Value} {u : Value} (h : WAt ⟨lo, fun _ => False, wb⟩ w b n s) (hb : Blk w g t cs) (ht : Other t) : WAt ⟨lo, fun _ => False, wb⟩ (w.setCell ⟨g, i, none⟩ u) b n s := by
  obtain ⟨mb, cb, h1, h2, h3, h4, h5, h6, h7, h8, h9, hx⟩ := h.apart
  obtain ⟨e1, e2, e3⟩ := hx g t cs hb ht
  exact ⟨mb, cb, (heap_setCell_other w _ _ _ (Ne.symm e1)).trans h1, h2.move (heap_setCell_other w _ _ _ (Ne.symm e2)), h3.move (heap_setCell_other w _ _ _ (Ne.symm e3)), h4, h5, h6, h7, h8, h9, fun k hk => hk.elim⟩
theorem WAt.set6 {lo : Nat} {w wb : World} {b n g : Nat} {s : St} {a0 a1 a2 a3 a4 a5 : Value} (h : WAt ⟨lo, fun _ => False, wb⟩ w b n s) (hb : Blk w g 42 #[a0, a1, a2, a3, a4, a5]) (u0 u1 u2 u3 u4 u5 : Value) : WAt ⟨lo, fun _ => False, wb⟩ (set6 w g u0 u1 u2 u3 u4 u5) b n s := by
  have ht : Other 42 := by unfold Other; decide
  have k0 := hb.set_ 0 u0
  have k1 := k0.set_ 1 u1
  have k2 := k1.set_ 2 u2
  have k3 := k2.set_ 3 u3
  have k4 := k3.set_ 4 u4
  exact (((((h.setOther hb ht).setOther k0 ht).setOther k1 ht).setOther k2 ht).setOther k3 ht).setOther k4 ht
theorem IsL.other {w w' : World} {v : Value} {l : List Int} (h : IsL w v l) (hk : ∀ g t cs, Blk w g t cs → Other t → Blk w' g t cs) : IsL w' v l := by
  obtain ⟨A, c, e, hs⟩ := h
  refine ⟨A, c, e, hs.move fun g hg => ?_⟩
  obtain ⟨cs, hb⟩ := hs.typed hg
  exact (hk g _ cs hb (by unfold Other; decide)).trans hb.symm
theorem RWV.other {w w' : World} {v1 v2 v3 v4 v5 : Value} {r : RW} (h : RWV w v1 v2 v3 v4 v5 r) (hk : ∀ g t cs, Blk w g t cs → Other t → Blk w' g t cs) : RWV w' v1 v2 v3 v4 v5 r :=
  ⟨h.h1.other hk, h.h2.other hk, h.h3.other hk, h.h4.other hk, h.h5.other hk⟩
theorem outs_wf {len : Nat} {xs : List Value} (lf : ∀ (i j : Nat) (k : FK), i < len → [FK.int, FK.int, FK.int, FK.str, FK.str][j]? = some k → ∃ u, xs[i * 5 + j]? = some u ∧ leafOk k u) :
    ∀ o ∈ ((List.range len).map (out5 xs)).map toV, WfI o.id := fun o ho => by
  rw [List.map_map, List.mem_map] at ho
  obtain ⟨j, hj, rfl⟩ := ho
  have hql := List.mem_range.1 hj
  obtain ⟨v1, e1, n1, rfl, h1⟩ := lf j 1 _ hql rfl
  show WfI (intOf (xs.getD (j * 5 + 1) undef))
  rw [List.getD_eq_getElem?_getD, e1]
  exact h1
end Go.Proofs.Ytghjhcobmbobcaa.Wt
