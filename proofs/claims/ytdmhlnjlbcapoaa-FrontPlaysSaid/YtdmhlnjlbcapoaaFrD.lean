/- Contracts of front's Take and Next. -/
import Derived.Test.YtdmhlnjlbcapoaaFrC
namespace Go.Proofs.Ytdmhlnjlbcapoaa
open Go.RowKit

/-- what Take does: the state behind, what is to be done, the frames held -/
def takeOf (st : Int) (hs : List (Int × ByteArray)) (x : Int × ByteArray) : Int × Int × List (Int × ByteArray) :=
  if onDo st x.1 = 3 then
    if hs.length < 4 then (onTo st x.1, 3, hs ++ [x])
    else if onTo st x.1 = 2 then (6, 7, []) else (6, 8, [])
  else (onTo st x.1, onDo st x.1, if onTo st x.1 = 6 then [] else hs)
theorem onDo3 (s k : Int) (h : onDo s k = 3) : onTo s k = 2 ∨ onTo s k = 4 := by
  obtain ⟨c0, c1⟩ := colOf_range k
  unfold onDo at h
  unfold onTo
  generalize colOf k = c at *
  by_cases hs : s < 0 ∨ 7 ≤ s
  · rw [if_pos hs] at h; cases h
  · rw [if_neg hs] at h ⊢
    rcases (show s = 0 ∨ s = 1 ∨ s = 2 ∨ s = 3 ∨ s = 4 ∨ s = 5 ∨ s = 6 by omega) with rfl | rfl | rfl | rfl | rfl | rfl | rfl <;>
      rcases (show c = 0 ∨ c = 1 ∨ c = 2 ∨ c = 3 ∨ c = 4 ∨ c = 5 by omega) with rfl | rfl | rfl | rfl | rfl | rfl <;>
        first | (exfalso; revert h; decide) | decide
theorem frame_info : (Try.prog.info? 29).map (fun i => (i.zero, i.size, i.bytes)) = some (some (.agg #[.int .i64 0, .string ByteArray.empty]), 2, 24) := by kernel_rfl
/-- the state store at the end -/
theorem Fr.set_state {w : World} {b : Nat} {v : Value} {st to : Int} {hs : List (Int × ByteArray)} (h : Fr w b v st hs) : Fr (w.setCell ⟨b, 0, none⟩ (.int .i64 to)) b v to hs :=
  ⟨h.1.set_ 0 _, h.2.far (h.2.ne_blk h.1 (by decide)) _⟩
theorem Fr.set_none {w : World} {b : Nat} {v : Value} {st : Int} {hs : List (Int × ByteArray)} (h : Fr w b v st hs) : Fr (w.setCell ⟨b, 1, none⟩ (.slice none 0 0)) b (.slice none 0 0) st [] :=
  ⟨h.1.set_ 1 _, Sl.nil _ _ _⟩
theorem take_close {w wa w2 : World} {b : Nat} {v v2 : Value} {st to : Int} {hs : List (Int × ByteArray)} {k : Int} {d : ByteArray} (hB : B w wa)
    (hs2 : Sl w2 29 2 v2 (hs.length + 1) (encF hs ++ [.int .i64 k, .string d])) (ho2 : Only (fun g => v.ownBlock = some g) wa w2) (hl2 : Lies wa v v2)
    (HB2 : Blk w2 b 56 #[.int .i64 st, v]) : FrStep w b v to (hs ++ [(k, d)]) ((w2.setCell ⟨b, 1, none⟩ v2).setCell ⟨b, 0, none⟩ (.int .i64 to)) := by
  have hne := hs2.ne_blk HB2 (by decide)
  refine ⟨v2, ⟨?_, ?_⟩, ?_, ?_⟩
  · have := (HB2.set_ 1 v2).set_ 0 (.int .i64 to)
    simpa using this
  · rw [encF_append, List.length_append]
    exact (hs2.far (p := ⟨b, 1, none⟩) hne _).far (p := ⟨b, 0, none⟩) hne _
  · refine Only.setCell (Only.setCell ?_ (p := ⟨b, 1, none⟩) (.inl (.inl rfl)) _) (p := ⟨b, 0, none⟩) (.inl (.inl rfl)) _
    exact (Only.of_B hB).trans_new ho2 fun i _ hi => .inr hi
  · rcases hl2 with h | ⟨g, h, hg⟩
    · exact .inr (.inl h)
    · exact .inr (.inr ⟨g, h, Nat.le_trans hB.size hg⟩)
theorem Fr.after {w w1 : World} {b : Nat} {v : Value} {st to : Int} {hs : List (Int × ByteArray)} (h : Fr w1 b v st hs) (hB : B w w1) : FrStep w b v to hs (w1.setCell ⟨b, 0, none⟩ (.int .i64 to)) :=
  ⟨v, h.set_state, (Only.of_B hB).setCell (p := ⟨b, 0, none⟩) (.inl (.inl rfl)) _, .inr (.inl rfl)⟩
theorem Fr.after_none {w w1 : World} {b : Nat} {v : Value} {st to : Int} {hs : List (Int × ByteArray)} (h : Fr w1 b v st hs) (hB : B w w1) : FrStep w b v to [] ((w1.setCell ⟨b, 0, none⟩ (.int .i64 to)).setCell ⟨b, 1, none⟩ (.slice none 0 0)) :=
  ⟨.slice none 0 0, (h.set_state (to := to)).set_none, ((Only.of_B hB).setCell (p := ⟨b, 0, none⟩) (.inl (.inl rfl)) _).setCell (p := ⟨b, 1, none⟩) (.inl (.inl rfl)) _, .inl rfl⟩
set_option maxHeartbeats 2000000 in
theorem take_hold (b : Nat) (v : Value) (st : Int) (hs : List (Int × ByteArray)) (k : Int) (d : ByteArray) (w : World) (hf : Fr w b v st hs) (to : Int) (ho : ∀ w : World, Calls Try.prog 17 #[.int .i64 st, .int .i64 k] w fun e w' => e = .returned (.tuple #[.int .i64 to, .int .i64 3]) ∧ B w w') (t6 : (to == 6) = false) (hl : hs.length < 4) :
    Calls Try.prog 11 #[.pointer (some ⟨b, 0, none⟩), .agg #[.int .i64 k, .string d]] w fun e w' => e = .returned (.int .i64 3) ∧ FrStep w b v to (hs ++ [(k, d)]) w' := by
  have h0 := hf.1.cell 0
  simp at h0
  obtain ⟨A, c, hv, hc1, hc2⟩ := hf.2.slice
  have HO := Lib.hid ho
  clear ho
  have hlt := hf.1.lt
  obtain ⟨i0, hi, hz0, hz1, hz2⟩ := info_parts frame_info
  go_enter Try.func11, Try.ntmps11
  go_wp2_with fail
  go_region_with (go_at_call 17; refine (HO.out _).mono ?_; rintro e w1 ⟨rfl, hb⟩)
  all_goals
    have hf1 : Fr w1 b v st hs := hf.b (B_trans (B_drew (B_alloc (B_refl _) _)) hb)
    have hB1 : B w w1 := B_trans (B_drew (B_alloc (B_refl _) _)) hb
    have hx : w1.cell? ⟨w.heap.size, 0, none⟩ = some (.int .i64 k) := (hb.cell (p := ⟨w.heap.size, 0, none⟩) (by simp)).trans (by simp)
    have hx1 : w1.cell? ⟨w.heap.size, 1, none⟩ = some (.string d) := (hb.cell (p := ⟨w.heap.size, 1, none⟩) (by simp)).trans (by simp)
    have hz : w.heap.size + 1 ≤ w1.heap.size := by have := hb.size; simpa using this
    have hlt1 : b < w1.heap.size := by omega
    have c0 := hf1.1.cell 0
    have c1 := hf1.1.cell 1
    have z0 := hf1.1.frozen 0
    have z1 := hf1.1.frozen 1
    simp at c0 c1
    have HF := Lib.hid hf1
    clear hf1
    have hne : v.ownBlock ≠ some b := hf.2.ne_blk hf.1 (by decide)
    have HN := Lib.hid hne
    clear hne
    subst hv
    go_wp2_with fail
    go_region_law (refine step_append_sl _ rfl (.tmp 34) (.tmp 36) 40 rfl 29 i0 _ 2 24 Try.underlying40 hi hz0 hz1 hz2 rfl (by decide) (.slice A hs.length c) hs.length (encF hs) rfl ?hs ⟨_, 0, none⟩ 1 1 [.int .i64 k, .string d] rfl rfl ?hn ?h1 ?hm ?hb ?_; (case hs => repeat (first | exact HF.out.2 | refine Sl.alloc ?_ _ | refine Sl.drew ?_)); (case hn => exact news2 (by simp) (by simp)); (case h1 => simp [Value.oneCell']); (case hm => unfold maxLen; omega); (case hb => omega); intro A2 c2 w2 hs2 ho2 hl2; have hB2 : Blk w2 b 56 #[.int .i64 st, .slice A hs.length c] := Blk.only (by repeat (first | exact HF.out.1 | refine Blk.alloc ?_ _ | refine Blk.drew ?_)) ho2 HN.out; have q1 := hB2.cell 1; have q2 := hB2.frozen 1; have q0 := hB2.cell 0; have q3 := hB2.frozen 0; simp at q1 q0; have HB2 := Lib.hid hB2; clear hB2)
    all_goals
      go_wp2
      go_ret
      exact ⟨rfl, take_close (by (repeat (first | assumption | exact B_refl _ | refine B_drewN ?_ _ | refine B_drew ?_ | refine B_alloc ?_ _ | refine B_setCell ?_ (by first | (simp; done) | (simp; omega)) _ | refine B_trans ?_ (by assumption)))) hs2 ho2 hl2 HB2.out⟩
set_option maxHeartbeats 2000000 in
theorem take_full2 (b : Nat) (v : Value) (st : Int) (hs : List (Int × ByteArray)) (k : Int) (d : ByteArray) (w : World) (hf : Fr w b v st hs)  (ho : ∀ w : World, Calls Try.prog 17 #[.int .i64 st, .int .i64 k] w fun e w' => e = .returned (.tuple #[.int .i64 2, .int .i64 3]) ∧ B w w') (hl : ¬ (hs.length : Int) < 4) :
    Calls Try.prog 11 #[.pointer (some ⟨b, 0, none⟩), .agg #[.int .i64 k, .string d]] w fun e w' => e = .returned (.int .i64 7) ∧ FrStep w b v (6) ([]) w' := by
  have h0 := hf.1.cell 0
  simp at h0
  obtain ⟨A, c, hv, hc1, hc2⟩ := hf.2.slice
  have HO := Lib.hid ho
  clear ho
  have hlt := hf.1.lt
  go_enter Try.func11, Try.ntmps11
  go_wp2_with fail
  go_region_with (go_at_call 17; refine (HO.out _).mono ?_; rintro e w1 ⟨rfl, hb⟩)
  all_goals
    have hf1 : Fr w1 b v st hs := hf.b (B_trans (B_drew (B_alloc (B_refl _) _)) hb)
    have hB1 : B w w1 := B_trans (B_drew (B_alloc (B_refl _) _)) hb
    have hz : w.heap.size + 1 ≤ w1.heap.size := by have := hb.size; simpa using this
    have hlt1 : b < w1.heap.size := by omega
    have c0 := hf1.1.cell 0
    have c1 := hf1.1.cell 1
    have z0 := hf1.1.frozen 0
    have z1 := hf1.1.frozen 1
    simp at c0 c1
    have HF := Lib.hid hf1
    clear hf1
    subst hv
    go_wp2
    go_ret
    exact ⟨rfl, HF.out.after_none hB1⟩
set_option maxHeartbeats 2000000 in
theorem take_full4 (b : Nat) (v : Value) (st : Int) (hs : List (Int × ByteArray)) (k : Int) (d : ByteArray) (w : World) (hf : Fr w b v st hs)  (ho : ∀ w : World, Calls Try.prog 17 #[.int .i64 st, .int .i64 k] w fun e w' => e = .returned (.tuple #[.int .i64 4, .int .i64 3]) ∧ B w w') (hl : ¬ (hs.length : Int) < 4) :
    Calls Try.prog 11 #[.pointer (some ⟨b, 0, none⟩), .agg #[.int .i64 k, .string d]] w fun e w' => e = .returned (.int .i64 8) ∧ FrStep w b v (6) ([]) w' := by
  have h0 := hf.1.cell 0
  simp at h0
  obtain ⟨A, c, hv, hc1, hc2⟩ := hf.2.slice
  have HO := Lib.hid ho
  clear ho
  have hlt := hf.1.lt
  go_enter Try.func11, Try.ntmps11
  go_wp2_with fail
  go_region_with (go_at_call 17; refine (HO.out _).mono ?_; rintro e w1 ⟨rfl, hb⟩)
  all_goals
    have hf1 : Fr w1 b v st hs := hf.b (B_trans (B_drew (B_alloc (B_refl _) _)) hb)
    have hB1 : B w w1 := B_trans (B_drew (B_alloc (B_refl _) _)) hb
    have hz : w.heap.size + 1 ≤ w1.heap.size := by have := hb.size; simpa using this
    have hlt1 : b < w1.heap.size := by omega
    have c0 := hf1.1.cell 0
    have c1 := hf1.1.cell 1
    have z0 := hf1.1.frozen 0
    have z1 := hf1.1.frozen 1
    simp at c0 c1
    have HF := Lib.hid hf1
    clear hf1
    subst hv
    go_wp2
    go_ret
    exact ⟨rfl, HF.out.after_none hB1⟩
set_option maxHeartbeats 2000000 in
theorem take_out (b : Nat) (v : Value) (st : Int) (hs : List (Int × ByteArray)) (k : Int) (d : ByteArray) (w : World) (hf : Fr w b v st hs) (what : Int) (ho : ∀ w : World, Calls Try.prog 17 #[.int .i64 st, .int .i64 k] w fun e w' => e = .returned (.tuple #[.int .i64 6, .int .i64 what]) ∧ B w w') (h3 : (what == 3) = false) :
    Calls Try.prog 11 #[.pointer (some ⟨b, 0, none⟩), .agg #[.int .i64 k, .string d]] w fun e w' => e = .returned (.int .i64 what) ∧ FrStep w b v (6) ([]) w' := by
  have h0 := hf.1.cell 0
  simp at h0
  obtain ⟨A, c, hv, hc1, hc2⟩ := hf.2.slice
  have HO := Lib.hid ho
  clear ho
  have hlt := hf.1.lt
  go_enter Try.func11, Try.ntmps11
  go_wp2_with fail
  go_region_with (go_at_call 17; refine (HO.out _).mono ?_; rintro e w1 ⟨rfl, hb⟩)
  all_goals
    have hf1 : Fr w1 b v st hs := hf.b (B_trans (B_drew (B_alloc (B_refl _) _)) hb)
    have hB1 : B w w1 := B_trans (B_drew (B_alloc (B_refl _) _)) hb
    have hz : w.heap.size + 1 ≤ w1.heap.size := by have := hb.size; simpa using this
    have hlt1 : b < w1.heap.size := by omega
    have c0 := hf1.1.cell 0
    have c1 := hf1.1.cell 1
    have z0 := hf1.1.frozen 0
    have z1 := hf1.1.frozen 1
    simp at c0 c1
    have HF := Lib.hid hf1
    clear hf1
    subst hv
    go_wp2
    go_ret
    exact ⟨rfl, HF.out.after_none hB1⟩
set_option maxHeartbeats 2000000 in
theorem take_on (b : Nat) (v : Value) (st : Int) (hs : List (Int × ByteArray)) (k : Int) (d : ByteArray) (w : World) (hf : Fr w b v st hs) (what to : Int) (ho : ∀ w : World, Calls Try.prog 17 #[.int .i64 st, .int .i64 k] w fun e w' => e = .returned (.tuple #[.int .i64 to, .int .i64 what]) ∧ B w w') (h3 : (what == 3) = false) (h6 : (to == 6) = false) :
    Calls Try.prog 11 #[.pointer (some ⟨b, 0, none⟩), .agg #[.int .i64 k, .string d]] w fun e w' => e = .returned (.int .i64 what) ∧ FrStep w b v (to) (hs) w' := by
  have h0 := hf.1.cell 0
  simp at h0
  obtain ⟨A, c, hv, hc1, hc2⟩ := hf.2.slice
  have HO := Lib.hid ho
  clear ho
  have hlt := hf.1.lt
  go_enter Try.func11, Try.ntmps11
  go_wp2_with fail
  go_region_with (go_at_call 17; refine (HO.out _).mono ?_; rintro e w1 ⟨rfl, hb⟩)
  all_goals
    have hf1 : Fr w1 b v st hs := hf.b (B_trans (B_drew (B_alloc (B_refl _) _)) hb)
    have hB1 : B w w1 := B_trans (B_drew (B_alloc (B_refl _) _)) hb
    have hz : w.heap.size + 1 ≤ w1.heap.size := by have := hb.size; simpa using this
    have hlt1 : b < w1.heap.size := by omega
    have c0 := hf1.1.cell 0
    have c1 := hf1.1.cell 1
    have z0 := hf1.1.frozen 0
    have z1 := hf1.1.frozen 1
    simp at c0 c1
    have HF := Lib.hid hf1
    clear hf1
    subst hv
    go_wp2
    go_ret
    exact ⟨rfl, HF.out.after hB1⟩

theorem take_any (b : Nat) (v : Value) (st : Int) (hs : List (Int × ByteArray)) (k : Int) (d : ByteArray) (w : World) (hf : Fr w b v st hs) :
    Calls Try.prog 11 #[.pointer (some ⟨b, 0, none⟩), .agg #[.int .i64 k, .string d]] w fun e w' => e = .returned (.int .i64 (takeOf st hs (k, d)).2.1) ∧ FrStep w b v (takeOf st hs (k, d)).1 (takeOf st hs (k, d)).2.2 w' := by
  have ho := on_any st k
  have h3 := onDo3 st k
  unfold takeOf
  generalize onDo st k = what at *
  generalize onTo st k = to at *
  by_cases hw : what = 3
  · subst hw
    rw [if_pos rfl]
    by_cases hl : hs.length < 4
    · rw [if_pos hl]
      exact take_hold b v st hs k d w hf to ho (by have := h3 rfl; simp; omega) hl
    · rw [if_neg hl]
      rcases h3 rfl with rfl | rfl
      · exact take_full2 b v st hs k d w hf ho (by omega)
      · exact take_full4 b v st hs k d w hf ho (by omega)
  · rw [if_neg hw]
    by_cases h6 : to = 6
    · subst h6
      exact take_out b v st hs k d w hf what ho (by simp [hw])
    · rw [if_neg h6]
      exact take_on b v st hs k d w hf what to ho (by simp [hw]) (by simp [h6])
theorem take_nil (w : World) (k : Int) (d : ByteArray) : Calls Try.prog 11 #[.pointer none, .agg #[.int .i64 k, .string d]] w fun e w' => e = .returned (.int .i64 0) ∧ B w w' := by
  go_enter Try.func11, Try.ntmps11
  go_wp2
  go_ret
  exact ⟨rfl, by (repeat (first | assumption | exact B_refl _ | refine B_drewN ?_ _ | refine B_drew ?_ | refine B_alloc ?_ _ | refine B_setCell ?_ (by first | (simp; done) | (simp; omega)) _ | refine B_trans ?_ (by assumption)))⟩
end Go.Proofs.Ytdmhlnjlbcapoaa
