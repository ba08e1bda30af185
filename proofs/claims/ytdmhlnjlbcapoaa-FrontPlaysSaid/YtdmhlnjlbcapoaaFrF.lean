/- A front as a law keeps it: which blocks it must not touch; the calls in that form; call; lives. -/
import Derived.Test.YtdmhlnjlbcapoaaFrE
namespace Go.Proofs.Ytdmhlnjlbcapoaa
open Go.RowKit

/-- the frames held behind Quit -/
def quitHs (st : Int) (hs : List (Int × ByteArray)) : List (Int × ByteArray) := if st = 6 then hs else []
/-- block b is a front of the law's own (made behind the world w0), apart from the blocks X -/
def LF (X : Nat → Prop) (w0 w : World) (b : Nat) (st : Int) (hs : List (Int × ByteArray)) : Prop :=
  ∃ v, Fr w b v st hs ∧ w0.heap.size ≤ b ∧ ¬ X b ∧ (∀ g, v.ownBlock = some g → w0.heap.size ≤ g ∧ ¬ X g) ∧ (∀ i, X i → i < w.heap.size) ∧ B w0 w
/-- the blocks X are as they were -/
def KX (X : Nat → Prop) (w w' : World) : Prop := w.heap.size ≤ w'.heap.size ∧ ∀ i, X i → w'.heap[i]? = w.heap[i]?
section
variable {X : Nat → Prop} {w0 w w1 : World} {b : Nat} {st : Int} {hs : List (Int × ByteArray)}
theorem KX.refl (w : World) : KX X w w := ⟨Nat.le_refl _, fun _ _ => rfl⟩
theorem LF.below (h : LF X w0 w b st hs) : B w0 w := by obtain ⟨v, _, _, _, _, _, h⟩ := h; exact h
theorem LF.step {w' : World} {v : Value} {st' : Int} {hs' : List (Int × ByteArray)} (hF : Fr w b v st hs) (hb : w0.heap.size ≤ b) (hX : ¬ X b)
    (hv : ∀ g, v.ownBlock = some g → w0.heap.size ≤ g ∧ ¬ X g) (hl : ∀ i, X i → i < w.heap.size) (hB : B w0 w) (h : FrStep w b v st' hs' w') : LF X w0 w' b st' hs' ∧ KX X w w' := by
  obtain ⟨v', hf', ho, hn⟩ := h
  have hff : ∀ i, FF b v i → w0.heap.size ≤ i ∧ ¬ X i := by
    rintro i (rfl | h)
    · exact ⟨hb, hX⟩
    · exact hv i h
  refine ⟨⟨v', hf', hb, hX, fun g hg => ?_, fun i hi => Nat.lt_of_lt_of_le (hl i hi) ho.size, ?_⟩, ho.size, fun i hi => ho.block i (hl i hi) fun hf => (hff i hf).2 hi⟩
  · rcases hn with h | h | ⟨g', h, hg'⟩
    · rw [h] at hg; cases hg
    · exact hv g (h ▸ hg)
    · rw [h] at hg
      injection hg with hg
      subst hg
      exact ⟨Nat.le_trans hB.size hg', fun hx => by have := hl _ hx; omega⟩
  · exact ⟨ho.os.trans hB.os, ho.tape.trans hB.tape, ho.output.trans hB.output, Nat.le_trans hB.size ho.size, fun i hi => (ho.block i (Nat.lt_of_lt_of_le hi hB.size) fun hf => by have := (hff i hf).1; omega).trans (hB.block i hi)⟩
theorem LF.onB (h : LF X w0 w b st hs) (hb : B w w1) : LF X w0 w1 b st hs := by
  obtain ⟨v, h1, h2, h3, h4, h5, h6⟩ := h
  exact ⟨v, h1.b hb, h2, h3, h4, fun i hi => Nat.lt_of_lt_of_le (h5 i hi) hb.size, B_trans h6 hb⟩
theorem LF.alloc (h : LF X w0 w b st hs) (o : Obj) : LF X w0 (w.alloc o) b st hs := h.onB (B_alloc (B_refl _) _)
theorem LF.drew (h : LF X w0 w b st hs) : LF X w0 w.drew b st hs := h.onB (B_drew (B_refl _))
theorem LF.drewN (h : LF X w0 w b st hs) (n : Nat) : LF X w0 (w.drewN n) b st hs := h.onB (B_drewN (B_refl _) n)
/-- a block more that is not to be touched: one that has come since -/
theorem LF.more (h : LF X w0 w b st hs) (o : Obj) : LF (fun i => X i ∨ i = w.heap.size) w0 (w.alloc o) b st hs := by
  obtain ⟨v, h1, h2, h3, h4, h5, h6⟩ := h
  have hlt := h1.1.lt
  refine ⟨v, h1.b (B_alloc (B_refl _) _), h2, ?_, fun g hg => ⟨(h4 g hg).1, ?_⟩, ?_, B_alloc h6 _⟩
  · rintro (h | h)
    · exact h3 h
    · omega
  · rintro (h | h)
    · exact (h4 g hg).2 h
    · have := h1.2.lt hg; omega
  · rintro i (h | h)
    · have := h5 i h; simp; omega
    · simp; omega
theorem LF.store (h : LF X w0 w b st hs) {p : Addr} (hp : X p.block) (h0 : w0.heap.size ≤ p.block) (u : Value) : LF X w0 (w.setCell p u) b st hs := by
  obtain ⟨v, h1, h2, h3, h4, h5, h6⟩ := h
  refine ⟨v, ⟨h1.1.far (fun e => h3 (e ▸ hp)) u, h1.2.far (fun e => (h4 _ e).2 hp) u⟩, h2, h3, h4, fun i hi => by simpa [World.setCell] using h5 i hi, B_setCell h6 h0 u⟩

theorem LF.new (hB : B w0 w) (hX : ∀ i, X i → i < w.heap.size) : Calls Try.prog 10 #[] w fun e w' => e = .returned (.pointer (some ⟨w.heap.size, 0, none⟩)) ∧ LF X w0 w' w.heap.size 0 [] ∧ B w w' :=
  (new_any w).mono fun _ w' ⟨he, hf, hb⟩ => ⟨he, ⟨.slice none 0 0, hf, hB.size, fun h => by have := hX _ h; omega, fun g hg => by simp [Value.ownBlock] at hg, fun i hi => by have := hX i hi; have := hb.size; omega, B_trans hB hb⟩, hb⟩
theorem LF.state (h : LF X w0 w b st hs) : Calls Try.prog 12 #[.pointer (some ⟨b, 0, none⟩)] w fun e w' => e = .returned (.int .i64 st) ∧ w = w' := by
  obtain ⟨v, h1, _⟩ := h
  exact state_any b v st hs w h1
theorem LF.held (h : LF X w0 w b st hs) : Calls Try.prog 14 #[.pointer (some ⟨b, 0, none⟩)] w fun e w' => e = .returned (.int .i64 hs.length) ∧ w = w' := by
  obtain ⟨v, h1, _⟩ := h
  exact held_any b v st hs w h1
theorem LF.take (h : LF X w0 w b st hs) (k : Int) (d : ByteArray) (st' what : Int) (hs' : List (Int × ByteArray)) (he : takeOf st hs (k, d) = (st', what, hs')) :
    Calls Try.prog 11 #[.pointer (some ⟨b, 0, none⟩), .agg #[.int .i64 k, .string d]] w fun e w' => e = .returned (.int .i64 what) ∧ LF X w0 w' b st' hs' ∧ KX X w w' := by
  obtain ⟨v, h1, h2, h3, h4, h5, h6⟩ := h
  refine (take_any b v st hs k d w h1).mono ?_
  rintro e w' ⟨rfl, hf⟩
  rw [he] at hf ⊢
  exact ⟨rfl, LF.step h1 h2 h3 h4 h5 h6 hf⟩
theorem LF.next_no (h : LF X w0 w b st hs) (hn : st = 2 ∨ st = 4 ∨ hs = []) :
    Calls Try.prog 15 #[.pointer (some ⟨b, 0, none⟩)] w fun e w' => e = .returned (.tuple #[.agg #[.int .i64 0, .string ByteArray.empty], .int .i64 0, .bool false]) ∧ LF X w0 w' b st hs ∧ KX X w w' := by
  have h' := h
  obtain ⟨v, h1, h2, h3, h4, h5, h6⟩ := h
  refine (Go.Proofs.Ytdmhlnjlbcapoaa.next_no b v st hs w h1 hn).mono ?_
  rintro e w' ⟨rfl, hb⟩
  exact ⟨rfl, h'.onB hb, hb.size, fun i hi => hb.block i (h5 i hi)⟩
theorem LF.next_yes {x : Int × ByteArray} (h : LF X w0 w b st (x :: hs)) (n2 : st ≠ 2) (n4 : st ≠ 4) (st' what : Int) (hs' : List (Int × ByteArray)) (he : takeOf st hs x = (st', what, hs')) :
    Calls Try.prog 15 #[.pointer (some ⟨b, 0, none⟩)] w fun e w' => e = .returned (.tuple #[.agg #[.int .i64 x.1, .string x.2], .int .i64 what, .bool true]) ∧ LF X w0 w' b st' hs' ∧ KX X w w' := by
  obtain ⟨v, h1, h2, h3, h4, h5, h6⟩ := h
  refine (Go.Proofs.Ytdmhlnjlbcapoaa.next_yes b v st x hs w h1 (by simp [n2]) (by simp [n4])).mono ?_
  rintro e w' ⟨rfl, hf⟩
  rw [he] at hf ⊢
  exact ⟨rfl, LF.step h1 h2 h3 h4 h5 h6 hf⟩
theorem LF.bound (h : LF X w0 w b st hs) : Calls Try.prog 13 #[.pointer (some ⟨b, 0, none⟩)] w fun e w' => e = .returned (.bool (st == 2)) ∧ LF X w0 w' b (mv (st == 2) 3 st) hs ∧ KX X w w' := by
  obtain ⟨v, h1, h2, h3, h4, h5, h6⟩ := h
  refine (bound_any b v st hs w h1).mono ?_
  rintro e w' ⟨rfl, hf⟩
  exact ⟨rfl, LF.step h1 h2 h3 h4 h5 h6 hf⟩
theorem LF.done (h : LF X w0 w b st hs) : Calls Try.prog 16 #[.pointer (some ⟨b, 0, none⟩)] w fun e w' => e = .returned (.bool (st == 4)) ∧ LF X w0 w' b (mv (st == 4) 1 st) hs ∧ KX X w w' := by
  obtain ⟨v, h1, h2, h3, h4, h5, h6⟩ := h
  refine (done_any b v st hs w h1).mono ?_
  rintro e w' ⟨rfl, hf⟩
  exact ⟨rfl, LF.step h1 h2 h3 h4 h5 h6 hf⟩
theorem LF.abort (h : LF X w0 w b st hs) : Calls Try.prog 30 #[.pointer (some ⟨b, 0, none⟩)] w fun e w' => e = .returned (.bool (abortDid st)) ∧ LF X w0 w' b (abortTo st) hs ∧ KX X w w' := by
  obtain ⟨v, h1, h2, h3, h4, h5, h6⟩ := h
  refine (abort_any b v st hs w h1).mono ?_
  rintro e w' ⟨rfl, hf⟩
  exact ⟨rfl, LF.step h1 h2 h3 h4 h5 h6 hf⟩
theorem LF.quit (h : LF X w0 w b st hs) : Calls Try.prog 31 #[.pointer (some ⟨b, 0, none⟩)] w fun e w' => e = .returned (.bool (st != 6)) ∧ LF X w0 w' b 6 (quitHs st hs) ∧ KX X w w' := by
  obtain ⟨v, h1, h2, h3, h4, h5, h6⟩ := h
  refine (quit_any b v st hs w h1).mono ?_
  rintro e w' ⟨rfl, hf⟩
  exact ⟨rfl, LF.step h1 h2 h3 h4 h5 h6 hf⟩
end
/-- what call does: did it, the state behind, the frames held -/
def callOf (st : Int) (hs : List (Int × ByteArray)) (n : Int) : Bool × Int × List (Int × ByteArray) :=
  if n = 0 then (st == 2, mv (st == 2) 3 st, hs) else if n = 1 then (st == 4, mv (st == 4) 1 st, hs) else if n = 2 then (abortDid st, abortTo st, hs) else (st != 6, 6, quitHs st hs)
theorem LF.call {X : Nat → Prop} {w0 w : World} {b : Nat} {st : Int} {hs : List (Int × ByteArray)} (h : LF X w0 w b st hs) (n : Int) :
    Calls Try.prog 26 #[.pointer (some ⟨b, 0, none⟩), .int .i64 n] w fun e w' => e = .returned (.bool (callOf st hs n).1) ∧ LF X w0 w' b (callOf st hs n).2.1 (callOf st hs n).2.2 ∧ KX X w w' := by
  have H := Lib.hid h
  clear h
  unfold callOf
  by_cases n0 : n = 0
  · subst n0
    rw [if_pos rfl]
    go_enter Try.func26, Try.ntmps26
    go_wp2_with (go_at_call 13; refine H.out.bound.mono ?_; rintro e w' ⟨rfl, h1, h2⟩)
    go_ret
    exact ⟨rfl, h1, h2⟩
  · rw [if_neg n0]
    by_cases n1 : n = 1
    · subst n1
      rw [if_pos rfl]
      go_enter Try.func26, Try.ntmps26
      go_wp2_with (go_at_call 16; refine H.out.done.mono ?_; rintro e w' ⟨rfl, h1, h2⟩)
      go_ret
      exact ⟨rfl, h1, h2⟩
    · rw [if_neg n1]
      by_cases n2 : n = 2
      · subst n2
        rw [if_pos rfl]
        go_enter Try.func26, Try.ntmps26
        go_wp2_with (go_at_call 30; refine H.out.abort.mono ?_; rintro e w' ⟨rfl, h1, h2⟩)
        go_ret
        exact ⟨rfl, h1, h2⟩
      · rw [if_neg n2]
        have b0 : (n == 0) = false := by simp [n0]
        have b1 : (n == 1) = false := by simp [n1]
        have b2 : (n == 2) = false := by simp [n2]
        clear n0 n1 n2
        go_enter Try.func26, Try.ntmps26
        go_wp2_with (go_at_call 31; refine H.out.quit.mono ?_; rintro e w' ⟨rfl, h1, h2⟩; have H1 := Lib.hid h1; have H2 := Lib.hid h2; clear h1 h2)
        go_ret
        exact ⟨rfl, H1.out, H2.out⟩
end Go.Proofs.Ytdmhlnjlbcapoaa
