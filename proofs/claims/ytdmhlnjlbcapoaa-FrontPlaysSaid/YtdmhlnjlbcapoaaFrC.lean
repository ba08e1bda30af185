/- Contracts of front's Bound, Done, Abort, Quit, Take, Next. -/
import Derived.Test.YtdmhlnjlbcapoaaFrB
namespace Go.Proofs.Ytdmhlnjlbcapoaa
open Go.RowKit

/-- behind a call: a front with this state and these frames; nothing else has changed -/
def FrStep (w : World) (b : Nat) (v : Value) (st : Int) (hs : List (Int × ByteArray)) (w' : World) : Prop := ∃ v', Fr w' b v' st hs ∧ Only (FF b v) w w' ∧ Near w v v'
theorem FrStep.of_move {w w' : World} {b : Nat} {v : Value} {st : Int} {hs : List (Int × ByteArray)} (h : Fr w' b v st hs) (ho : Only (fun i => i = b) w w') : FrStep w b v st hs w' :=
  ⟨v, h, ho.mono fun _ _ hi => .inl hi, .inr (.inl rfl)⟩
theorem FrStep.of_same {w : World} {b : Nat} {v : Value} {st : Int} {hs : List (Int × ByteArray)} (h : Fr w b v st hs) : FrStep w b v st hs w :=
  ⟨v, h, Only.refl _ _, .inr (.inl rfl)⟩
theorem FrStep.trans {w w1 w2 : World} {b : Nat} {v v1 : Value} {st : Int} {hs : List (Int × ByteArray)} (ho : Only (FF b v) w w1) (hn : Near w v v1) (h : FrStep w1 b v1 st hs w2) : FrStep w b v st hs w2 := by
  obtain ⟨v2, hf, ho2, hn2⟩ := h
  refine ⟨v2, hf, ho.trans_new ho2 ?_, ?_⟩
  · rintro i hi (rfl | hv)
    · exact .inl rfl
    · rcases hn with h0 | h0 | ⟨g, hg, hlt⟩
      · rw [h0] at hv; cases hv
      · exact .inr (h0 ▸ hv)
      · rw [hg] at hv; injection hv with hv; omega
  · rcases hn2 with h0 | h0 | ⟨g, hg, hlt⟩
    · exact .inl h0
    · rcases hn with h1 | h1 | ⟨g, hg, hlt⟩
      · exact .inl (h0.trans h1)
      · exact .inr (.inl (h0.trans h1))
      · exact .inr (.inr ⟨g, h0.trans hg, hlt⟩)
    · exact .inr (.inr ⟨g, hg, Nat.le_trans ho.size hlt⟩)
theorem Fr.b {w w' : World} {b : Nat} {v : Value} {st : Int} {hs : List (Int × ByteArray)} (h : Fr w b v st hs) (hb : B w w') : Fr w' b v st hs := ⟨h.1.b hb, h.2.b hb⟩
theorem Fr.only {w w' : World} {b : Nat} {v : Value} {st : Int} {hs : List (Int × ByteArray)} {F : Nat → Prop} (h : Fr w b v st hs) (ho : Only F w w') (h1 : ¬ F b) (h2 : ∀ g, v.ownBlock = some g → ¬ F g) : Fr w' b v st hs :=
  ⟨h.1.only ho h1, h.2.only ho h2⟩

theorem bound_any (b : Nat) (v : Value) (st : Int) (hs : List (Int × ByteArray)) (w : World) (hf : Fr w b v st hs) :
    Calls Try.prog 13 #[.pointer (some ⟨b, 0, none⟩)] w fun e w' => e = .returned (.bool (st == 2)) ∧ FrStep w b v (mv (st == 2) 3 st) hs w' := by
  go_enter Try.func13, Try.ntmps13
  go_wp2_with (first | (go_at_call 12; refine (state_any b v st hs _ hf).mono ?_; rintro e w' ⟨rfl, rfl⟩) | (go_at_call 27; refine (move_any b v st hs _ _ _ hf).mono ?_; rintro e w' ⟨rfl, hf', ho⟩))
  go_ret
  exact ⟨rfl, FrStep.of_move hf' ho⟩
theorem done_any (b : Nat) (v : Value) (st : Int) (hs : List (Int × ByteArray)) (w : World) (hf : Fr w b v st hs) :
    Calls Try.prog 16 #[.pointer (some ⟨b, 0, none⟩)] w fun e w' => e = .returned (.bool (st == 4)) ∧ FrStep w b v (mv (st == 4) 1 st) hs w' := by
  go_enter Try.func16, Try.ntmps16
  go_wp2_with (first | (go_at_call 12; refine (state_any b v st hs _ hf).mono ?_; rintro e w' ⟨rfl, rfl⟩) | (go_at_call 27; refine (move_any b v st hs _ _ _ hf).mono ?_; rintro e w' ⟨rfl, hf', ho⟩))
  go_ret
  exact ⟨rfl, FrStep.of_move hf' ho⟩
def abortDid (st : Int) : Bool := st == 4 || (st == 2 || st == 3)
def abortTo (st : Int) : Int := if st = 4 then 1 else if st = 2 ∨ st = 3 then 5 else st
theorem abort_any (b : Nat) (v : Value) (st : Int) (hs : List (Int × ByteArray)) (w : World) (hf : Fr w b v st hs) :
    Calls Try.prog 30 #[.pointer (some ⟨b, 0, none⟩)] w fun e w' => e = .returned (.bool (abortDid st)) ∧ FrStep w b v (abortTo st) hs w' := by
  rcases (show st = 4 ∨ st = 2 ∨ st = 3 ∨ (st ≠ 4 ∧ st ≠ 2 ∧ st ≠ 3) by omega) with rfl | rfl | rfl | ⟨h4, h2, h3⟩
  · go_enter Try.func30, Try.ntmps30
    go_wp2_with (first | (go_at_call 12; refine (state_any b v _ hs _ hf).mono ?_; rintro e w' ⟨rfl, rfl⟩) | (go_at_call 16; refine (done_any b v _ hs _ hf).mono ?_; rintro e w' ⟨rfl, hs'⟩))
    go_ret
    exact ⟨rfl, hs'⟩
  · go_enter Try.func30, Try.ntmps30
    go_wp2_with (first | (go_at_call 12; refine (state_any b v _ hs _ hf).mono ?_; rintro e w' ⟨rfl, rfl⟩) | (go_at_call 16; refine (done_any b v _ hs _ hf).mono ?_; rintro e w' ⟨rfl, v1, hf1, ho1, hn1⟩) | (go_at_call 27; refine (move_any b v1 _ hs _ _ _ hf1).mono ?_; rintro e w' ⟨rfl, hf', ho⟩))
    go_ret
    exact ⟨rfl, FrStep.trans ho1 hn1 (FrStep.of_move hf' ho)⟩
  · go_enter Try.func30, Try.ntmps30
    go_wp2_with (first | (go_at_call 12; refine (state_any b v _ hs _ hf).mono ?_; rintro e w' ⟨rfl, rfl⟩) | (go_at_call 16; refine (done_any b v _ hs _ hf).mono ?_; rintro e w' ⟨rfl, v1, hf1, ho1, hn1⟩) | (go_at_call 27; refine (move_any b v1 _ hs _ _ _ hf1).mono ?_; rintro e w' ⟨rfl, hf', ho⟩))
    go_ret
    exact ⟨rfl, FrStep.trans ho1 hn1 (FrStep.of_move hf' ho)⟩
  · have b4 : (st == 4) = false := by simp [h4]
    have b2 : (st == 2) = false := by simp [h2]
    have b3 : (st == 3) = false := by simp [h3]
    have e1 : abortDid st = false := by simp [abortDid, b4, b2, b3]
    have e2 : abortTo st = st := by simp [abortTo, h4, h2, h3]
    rw [e1, e2]
    clear e1 e2 h4 h2 h3
    go_enter Try.func30, Try.ntmps30
    go_wp2_with (first | (go_at_call 12; refine (state_any b v _ hs _ hf).mono ?_; rintro e w' ⟨rfl, rfl⟩) | (go_at_call 16; refine (done_any b v _ hs _ hf).mono ?_; rintro e w' ⟨rfl, v1, hf1, ho1, hn1⟩) | (go_at_call 27; refine (move_any b v1 _ hs _ _ _ hf1).mono ?_; rintro e w' ⟨rfl, hf', ho⟩))
    go_ret
    rw [b4] at hf'
    exact ⟨rfl, FrStep.trans ho1 hn1 (FrStep.of_move hf' ho)⟩
theorem quit_any (b : Nat) (v : Value) (st : Int) (hs : List (Int × ByteArray)) (w : World) (hf : Fr w b v st hs) :
    Calls Try.prog 31 #[.pointer (some ⟨b, 0, none⟩)] w fun e w' => e = .returned (.bool (st != 6)) ∧ FrStep w b v 6 (if st = 6 then hs else []) w' := by
  by_cases h6 : st = 6
  · subst h6
    rw [if_pos rfl]
    go_enter Try.func31, Try.ntmps31
    go_wp2_with (first | (go_at_call 12; refine (state_any b v _ hs _ hf).mono ?_; rintro e w' ⟨rfl, rfl⟩) | (go_at_call 27; refine (move_any b v _ hs _ _ _ hf).mono ?_; rintro e w' ⟨rfl, hf', ho⟩))
    go_ret
    exact ⟨rfl, FrStep.of_move hf' ho⟩
  · rw [if_neg h6]
    have b6 : (st != 6) = true := by simp [h6]
    clear h6
    go_enter Try.func31, Try.ntmps31
    go_wp2_with (first | (go_at_call 12; refine (state_any b v _ hs _ hf).mono ?_; rintro e w' ⟨rfl, rfl⟩) | (go_at_call 27; refine (move_any b v _ hs _ _ _ hf).mono ?_; rintro e w' ⟨rfl, hf', ho⟩; have hc := hf'.1.cell 1; have hz := hf'.1.frozen 1; simp at hc))
    go_ret
    exact ⟨b6 ▸ rfl, .slice none 0 0, ⟨hf'.1.set_ 1 _, Sl.nil _ _ _⟩, (ho.mono fun _ _ hi => .inl hi).setCell (p := ⟨b, 1, none⟩) (.inl (.inl rfl)) _, .inl rfl⟩
end Go.Proofs.Ytdmhlnjlbcapoaa
