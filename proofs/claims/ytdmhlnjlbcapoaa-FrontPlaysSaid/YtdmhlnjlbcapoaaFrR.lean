/- Contract of hostlerref15's Go. -/
import Derived.Test.YtdmhlnjlbcapoaaFrP
namespace Go.Proofs.Ytdmhlnjlbcapoaa
open Go.RowKit

theorem RefOut.refl {w w' : World} {v : Value} {hs : List (Int × ByteArray)} (hv : Sl w 29 2 v hs.length (encF hs)) (hb : B w w') : RefOut w v hs v w' := ⟨hv.b hb, hb, .inl rfl⟩
theorem RefOut.none {w w' : World} {v : Value} (hb : B w w') : RefOut w v [] (.slice none 0 0) w' := ⟨Sl.nil _ _ _, hb, .inr fun g hg => by simp [Value.ownBlock] at hg⟩
set_option maxHeartbeats 4000000 in
theorem refgo_any (st : Int) (hs : List (Int × ByteArray)) (v : Value) (n : Int) (hn0 : 0 ≤ n) (hn3 : n ≤ 3) (w : World) (hv : Sl w 29 2 v hs.length (encF hs)) {did : Bool} {st' : Int} {hs' : List (Int × ByteArray)} (he : callOf st hs n = (did, st', hs')) :
    Calls Try.prog 25 #[.agg #[.int .i64 st, v], .int .i64 n] w fun e w' => ∃ v', e = .returned (.tuple #[.agg #[.int .i64 st', v'], .bool did]) ∧ RefOut w v hs' v' w' := by
  obtain ⟨A, c, rfl, _⟩ := hv.slice
  have HV := Lib.hid hv
  clear hv
  rcases (show n = 0 ∨ n = 1 ∨ n = 2 ∨ n = 3 by omega) with rfl | rfl | rfl | rfl
  · rcases (show st = 2 ∨ (st == 2) = false by by_cases h : st = 2; exact .inl h; exact .inr (by simp [h])) with rfl | h
    · obtain ⟨rfl, rfl, rfl⟩ : true = did ∧ 3 = st' ∧ hs = hs' := by simpa [callOf, mv] using he
      clear he
      go_enter Try.func25, Try.ntmps25
      go_wp2
      refine bodyPost_ret (v := .tuple #[.agg #[.int .i64 (3), .slice A hs.length c], .bool true]) (by simp [results, Try.results25, go_sem]; try rfl) rfl ⟨_, rfl, (.refl HV.out (by (repeat (first | assumption | exact B_refl _ | refine B_drewN ?_ _ | refine B_drew ?_ | refine B_alloc ?_ _ | refine B_setCell ?_ (by first | (simp; done) | (simp; omega)) _ | refine B_trans ?_ (by assumption)))))⟩
    · obtain ⟨rfl, rfl, rfl⟩ : false = did ∧ st = st' ∧ hs = hs' := by simpa [callOf, mv, h] using he
      clear he
      go_enter Try.func25, Try.ntmps25
      go_wp2
      refine bodyPost_ret (v := .tuple #[.agg #[.int .i64 (st), .slice A hs.length c], .bool false]) (by simp [results, Try.results25, go_sem]; try rfl) rfl ⟨_, rfl, (.refl HV.out (by (repeat (first | assumption | exact B_refl _ | refine B_drewN ?_ _ | refine B_drew ?_ | refine B_alloc ?_ _ | refine B_setCell ?_ (by first | (simp; done) | (simp; omega)) _ | refine B_trans ?_ (by assumption)))))⟩
  · rcases (show st = 4 ∨ (st == 4) = false by by_cases h : st = 4; exact .inl h; exact .inr (by simp [h])) with rfl | h
    · obtain ⟨rfl, rfl, rfl⟩ : true = did ∧ 1 = st' ∧ hs = hs' := by simpa [callOf, mv] using he
      clear he
      go_enter Try.func25, Try.ntmps25
      go_wp2
      refine bodyPost_ret (v := .tuple #[.agg #[.int .i64 (1), .slice A hs.length c], .bool true]) (by simp [results, Try.results25, go_sem]; try rfl) rfl ⟨_, rfl, (.refl HV.out (by (repeat (first | assumption | exact B_refl _ | refine B_drewN ?_ _ | refine B_drew ?_ | refine B_alloc ?_ _ | refine B_setCell ?_ (by first | (simp; done) | (simp; omega)) _ | refine B_trans ?_ (by assumption)))))⟩
    · obtain ⟨rfl, rfl, rfl⟩ : false = did ∧ st = st' ∧ hs = hs' := by simpa [callOf, mv, h] using he
      clear he
      go_enter Try.func25, Try.ntmps25
      go_wp2
      refine bodyPost_ret (v := .tuple #[.agg #[.int .i64 (st), .slice A hs.length c], .bool false]) (by simp [results, Try.results25, go_sem]; try rfl) rfl ⟨_, rfl, (.refl HV.out (by (repeat (first | assumption | exact B_refl _ | refine B_drewN ?_ _ | refine B_drew ?_ | refine B_alloc ?_ _ | refine B_setCell ?_ (by first | (simp; done) | (simp; omega)) _ | refine B_trans ?_ (by assumption)))))⟩
  · rcases (show st = 2 ∨ st = 3 ∨ st = 4 ∨ ((st == 2) = false ∧ (st == 3) = false ∧ (st == 4) = false) by
      by_cases h2 : st = 2
      · exact .inl h2
      · by_cases h3 : st = 3
        · exact .inr (.inl h3)
        · by_cases h4 : st = 4
          · exact .inr (.inr (.inl h4))
          · exact .inr (.inr (.inr ⟨by simp [h2], by simp [h3], by simp [h4]⟩))) with rfl | rfl | rfl | ⟨h2, h3, h4⟩
    · obtain ⟨rfl, rfl, rfl⟩ : true = did ∧ 5 = st' ∧ hs = hs' := by simpa [callOf, abortDid, abortTo] using he
      clear he
      go_enter Try.func25, Try.ntmps25
      go_wp2
      refine bodyPost_ret (v := .tuple #[.agg #[.int .i64 (5), .slice A hs.length c], .bool true]) (by simp [results, Try.results25, go_sem]; try rfl) rfl ⟨_, rfl, (.refl HV.out (by (repeat (first | assumption | exact B_refl _ | refine B_drewN ?_ _ | refine B_drew ?_ | refine B_alloc ?_ _ | refine B_setCell ?_ (by first | (simp; done) | (simp; omega)) _ | refine B_trans ?_ (by assumption)))))⟩
    · obtain ⟨rfl, rfl, rfl⟩ : true = did ∧ 5 = st' ∧ hs = hs' := by simpa [callOf, abortDid, abortTo] using he
      clear he
      go_enter Try.func25, Try.ntmps25
      go_wp2
      refine bodyPost_ret (v := .tuple #[.agg #[.int .i64 (5), .slice A hs.length c], .bool true]) (by simp [results, Try.results25, go_sem]; try rfl) rfl ⟨_, rfl, (.refl HV.out (by (repeat (first | assumption | exact B_refl _ | refine B_drewN ?_ _ | refine B_drew ?_ | refine B_alloc ?_ _ | refine B_setCell ?_ (by first | (simp; done) | (simp; omega)) _ | refine B_trans ?_ (by assumption)))))⟩
    · obtain ⟨rfl, rfl, rfl⟩ : true = did ∧ 1 = st' ∧ hs = hs' := by simpa [callOf, abortDid, abortTo] using he
      clear he
      go_enter Try.func25, Try.ntmps25
      go_wp2
      refine bodyPost_ret (v := .tuple #[.agg #[.int .i64 (1), .slice A hs.length c], .bool true]) (by simp [results, Try.results25, go_sem]; try rfl) rfl ⟨_, rfl, (.refl HV.out (by (repeat (first | assumption | exact B_refl _ | refine B_drewN ?_ _ | refine B_drew ?_ | refine B_alloc ?_ _ | refine B_setCell ?_ (by first | (simp; done) | (simp; omega)) _ | refine B_trans ?_ (by assumption)))))⟩
    · obtain ⟨rfl, rfl, rfl⟩ : did = false ∧ st = st' ∧ hs = hs' := by
        have e2 : st ≠ 2 := beq_eq_false_iff_ne.1 h2
        have e3 : st ≠ 3 := beq_eq_false_iff_ne.1 h3
        have e4 : st ≠ 4 := beq_eq_false_iff_ne.1 h4
        simpa [callOf, abortDid, abortTo, e2, e3, e4, h2, h3, h4] using he
      clear he
      go_enter Try.func25, Try.ntmps25
      go_wp2
      refine bodyPost_ret (v := .tuple #[.agg #[.int .i64 (st), .slice A hs.length c], .bool false]) (by simp [results, Try.results25, go_sem]; try rfl) rfl ⟨_, rfl, (.refl HV.out (by (repeat (first | assumption | exact B_refl _ | refine B_drewN ?_ _ | refine B_drew ?_ | refine B_alloc ?_ _ | refine B_setCell ?_ (by first | (simp; done) | (simp; omega)) _ | refine B_trans ?_ (by assumption)))))⟩
  · rcases (show st = 6 ∨ (st == 6) = false by by_cases h : st = 6; exact .inl h; exact .inr (by simp [h])) with rfl | h
    · obtain ⟨rfl, rfl, rfl⟩ : false = did ∧ 6 = st' ∧ hs = hs' := by simpa [callOf, quitHs] using he
      clear he
      go_enter Try.func25, Try.ntmps25
      go_wp2
      refine bodyPost_ret (v := .tuple #[.agg #[.int .i64 (6), .slice A hs.length c], .bool false]) (by simp [results, Try.results25, go_sem]; try rfl) rfl ⟨_, rfl, (.refl HV.out (by (repeat (first | assumption | exact B_refl _ | refine B_drewN ?_ _ | refine B_drew ?_ | refine B_alloc ?_ _ | refine B_setCell ?_ (by first | (simp; done) | (simp; omega)) _ | refine B_trans ?_ (by assumption)))))⟩
    · obtain ⟨rfl, rfl, rfl⟩ : did = true ∧ 6 = st' ∧ hs' = [] := by
        have e6 : st ≠ 6 := beq_eq_false_iff_ne.1 h
        simpa [callOf, quitHs, e6, bne, h] using he
      clear he
      go_enter Try.func25, Try.ntmps25
      go_wp2
      refine bodyPost_ret (v := .tuple #[.agg #[.int .i64 (6), .slice none 0 0], .bool true]) (by simp [results, Try.results25, go_sem]; try rfl) rfl ⟨_, rfl, (.none (by (repeat (first | assumption | exact B_refl _ | refine B_drewN ?_ _ | refine B_drew ?_ | refine B_alloc ?_ _ | refine B_setCell ?_ (by first | (simp; done) | (simp; omega)) _ | refine B_trans ?_ (by assumption)))))⟩
end Go.Proofs.Ytdmhlnjlbcapoaa
