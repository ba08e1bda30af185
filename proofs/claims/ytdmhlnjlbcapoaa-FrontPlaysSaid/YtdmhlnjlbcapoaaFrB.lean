/- Contracts of the methods of front.Front. -/
import Derived.Test.YtdmhlnjlbcapoaaFrA
import Derived.Test.YtdmhlnjlbcapoaaMem
namespace Go.Proofs.Ytdmhlnjlbcapoaa
open Go.RowKit

/-- frames, as cells -/
def encF (hs : List (Int × ByteArray)) : List Value := hs.flatMap fun x => [.int .i64 x.1, .string x.2]
theorem encF_append (a b : List (Int × ByteArray)) : encF (a ++ b) = encF a ++ encF b := by simp [encF]
theorem encF_length (a : List (Int × ByteArray)) : (encF a).length = a.length * 2 := by
  induction a with
  | nil => rfl
  | cons x r ih => simp only [encF, List.flatMap_cons, List.length_append, List.length_cons, List.length_nil] at ih ⊢; omega
/-- block b is a front: its state, the frames held, in the slice v -/
def Fr (w : World) (b : Nat) (v : Value) (st : Int) (hs : List (Int × ByteArray)) : Prop :=
  Blk w b 56 #[.int .i64 st, v] ∧ Sl w 29 2 v hs.length (encF hs)
/-- the slice lies where it lay, or nowhere, or in new memory -/
def Near (w : World) (v v' : Value) : Prop := v'.ownBlock = none ∨ v'.ownBlock = v.ownBlock ∨ ∃ g, v'.ownBlock = some g ∧ w.heap.size ≤ g
/-- what a front's call may touch -/
def FF (b : Nat) (v : Value) : Nat → Prop := fun i => i = b ∨ v.ownBlock = some i

theorem state_any (b : Nat) (v : Value) (st : Int) (hs : List (Int × ByteArray)) (w : World) (hf : Fr w b v st hs) :
    Calls Try.prog 12 #[.pointer (some ⟨b, 0, none⟩)] w fun e w' => e = .returned (.int .i64 st) ∧ w = w' := by
  have h0 := hf.1.cell 0
  simp at h0
  go_enter Try.func12, Try.ntmps12
  go_wp2
  go_ret
  exact ⟨rfl, rfl⟩
theorem state_nil (w : World) : Calls Try.prog 12 #[.pointer none] w fun e w' => e = .returned (.int .i64 6) ∧ w = w' := by
  go_enter Try.func12, Try.ntmps12
  go_wp2
  go_ret
  exact ⟨rfl, rfl⟩
theorem held_any (b : Nat) (v : Value) (st : Int) (hs : List (Int × ByteArray)) (w : World) (hf : Fr w b v st hs) :
    Calls Try.prog 14 #[.pointer (some ⟨b, 0, none⟩)] w fun e w' => e = .returned (.int .i64 hs.length) ∧ w = w' := by
  have h0 := hf.1.cell 1
  simp at h0
  obtain ⟨A, c, rfl, _⟩ := hf.2.slice
  go_enter Try.func14, Try.ntmps14
  go_wp2
  go_ret
  exact ⟨rfl, rfl⟩
theorem held_nil (w : World) : Calls Try.prog 14 #[.pointer none] w fun e w' => e = .returned (.int .i64 0) ∧ w = w' := by
  go_enter Try.func14, Try.ntmps14
  go_wp2
  go_ret
  exact ⟨rfl, rfl⟩
theorem new_any (w : World) : Calls Try.prog 10 #[] w fun e w' => e = .returned (.pointer (some ⟨w.heap.size, 0, none⟩)) ∧ Fr w' w.heap.size (.slice none 0 0) 0 [] ∧ B w w' := by
  go_enter Try.func10, Try.ntmps10
  go_wp2
  go_ret
  exact ⟨rfl, ⟨Blk.new _ _ _, Sl.nil _ _ _⟩, B_alloc (B_refl _) _⟩
/-- the state behind a move -/
def mv (so : Bool) (to st : Int) : Int := if so then to else st
/-- move, of a front that is there -/
theorem move_any (b : Nat) (v : Value) (st : Int) (hs : List (Int × ByteArray)) (so : Bool) (to : Int) (w : World) (hf : Fr w b v st hs) :
    Calls Try.prog 27 #[.pointer (some ⟨b, 0, none⟩), .bool so, .int .i64 to] w fun e w' => e = .returned (.bool so) ∧ Fr w' b v (mv so to st) hs ∧ Only (fun i => i = b) w w' := by
  have h0 := hf.1.cell 0
  have h1 := hf.1.frozen 0
  simp at h0
  cases so
  · go_enter Try.func27, Try.ntmps27
    go_wp2
    go_ret
    exact ⟨rfl, hf, Only.refl _ _⟩
  · go_enter Try.func27, Try.ntmps27
    go_wp2
    go_ret
    exact ⟨rfl, ⟨hf.1.set_ 0 _, hf.2.far (hf.2.ne_blk hf.1 (by decide)) _⟩, Only.setCell (F := fun i => i = b) (Only.refl _ w) (p := ⟨b, 0, none⟩) (.inl rfl) _⟩
end Go.Proofs.Ytdmhlnjlbcapoaa
