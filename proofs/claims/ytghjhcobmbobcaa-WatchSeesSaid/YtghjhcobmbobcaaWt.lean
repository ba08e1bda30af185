/- slices.Sort at a slice of ints of the call's own. -/
import Derived.Test.YtghjhcobmbobcaaWs
import Derived.Test.YtghjhcobmbobcaaMem
import Derived.Test.YtghjhcobmbobcaaSh
namespace Go.Proofs.Ytghjhcobmbobcaa.Wt
open Go.RowKit Go.Proofs.Ytghjhcobmbobcaa Go.Sort
def encInts (l : List Int) : List Value := l.map (Value.int .i64)
/-- The cells of a list of ints. -/
def IntsAt (w : World) (A : Option Addr) (l : List Int) : Prop := ∀ (j : Nat) (x : Int), l[j]? = some x → ∃ g o, A = some ⟨g, o, none⟩ ∧ w.cell? ⟨g, o + j, none⟩ = some (.int .i64 x)
theorem sort_sl (w : World) (base c : Nat) (A : Option Addr) (l : List Int) (hS : Sl w 3 1 (.slice A l.length c) l.length (encInts l)) (hlen : l.length ≤ 100000) (hO : ∀ g, Value.ownBlock (.slice A l.length c) = some g → base ≤ g) :
    Calls Try.prog 41 #[.slice A l.length c] w fun e w' => e = .returned (.tuple #[]) ∧ Below base w w' ∧ IntsAt w' A (sortI l) := by
  rcases Nat.eq_zero_or_pos l.length with h0 | h0
  · obtain rfl := List.eq_nil_of_length_eq_zero h0
    refine (Try.slices_Sort_int_none A c w).mono ?_
    rintro e w' ⟨rfl, rfl⟩
    exact ⟨rfl, Below.refl _ _, fun j x hj => by simp [sortI] at hj⟩
  · obtain ⟨g, o, rfl, hg, hc⟩ := hS.cells h0
    have hbg : base ≤ g := hO g (by simp [Value.ownBlock])
    obtain ⟨cs, hbk⟩ := hS.typed (g := g) (by simp [Value.ownBlock])
    have hH : Holds (Value.int .i64) w g o l.toArray := fun j hj => by
      have hj' : j < l.length := by simpa using hj
      refine ⟨?_, ?_⟩
      · rw [hc j (.int .i64 l[j]) (by simp [encInts, hj'])]
        simp [hj']
      · have := hbk
        unfold Blk at this
        simp [World.frozen?, this]
    refine (Try.slices_Sort_int g o c l w hH hg (by omega)).mono ?_
    rintro e w' ⟨rfl, n, os, rfl⟩
    have hs : (sortI l).toArray.size = l.toArray.size := by simp [sortI]
    have h2 := holds_putRow (Value.int .i64) (Sort.ahead w n) g o l.toArray (sortI l).toArray hH hs
    have hgr : ∀ k, k < w.heap.size → (grow (putRow (Value.int .i64) (Sort.ahead w n) g o (sortI l).toArray) os).heap[k]? = (putRow (Value.int .i64) (Sort.ahead w n) g o (sortI l).toArray).heap[k]? := fun k hk => by
      unfold grow
      exact Array.getElem?_append_left (by simpa using hk)
    refine ⟨rfl, ⟨rfl, rfl, rfl, ?_, fun k hk => ?_⟩, fun j x hj => ⟨g, o, rfl, ?_⟩⟩
    · have := size_grow (putRow (Value.int .i64) (Sort.ahead w n) g o (sortI l).toArray) os
      rw [size_putRow] at this
      have e : (Sort.ahead w n).heap.size = w.heap.size := rfl
      show w.heap.size ≤ (grow (putRow (Value.int .i64) (Sort.ahead w n) g o (sortI l).toArray) os).heap.size
      omega
    · refine (hgr k (by omega)).trans ?_
      unfold putRow mapBlock
      rw [Array.getElem?_modify, if_neg (by omega)]
      rfl
    · have hjl := (List.getElem?_eq_some_iff.1 hj).1
      have h3 := (h2 j (by simpa using hjl)).1
      refine (World.cell?_of_block (hgr g hg)).trans (h3.trans ?_)
      obtain ⟨_, hx⟩ := List.getElem?_eq_some_iff.1 hj
      simp [hjl, hx]
end Go.Proofs.Ytghjhcobmbobcaa.Wt
