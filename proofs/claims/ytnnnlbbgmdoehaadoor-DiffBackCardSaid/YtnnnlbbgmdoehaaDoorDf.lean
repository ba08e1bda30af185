/- diff.Check, diff.of and slices.Clone at lists of few short texts: what each returns; nothing that was there has changed. -/
import Derived.Test.YtnnnlbbgmdoehaaDoorRn
import Derived.Test.YtnnnlbbgmdoehaaDoorWWords
import Derived.Test.YtnnnlbbgmdoehaaDoorWLast
import Derived.Maps.OwnSet
import Derived.WalkKit
namespace Go.Proofs.YtnnnlbbgmdoehaaDoor.Df
open Go.RowKit Go.Proofs.YtnnnlbbgmdoehaaDoorW.PrintWords Go.Proofs.YtnnnlbbgmdoehaaDoorW.PrintLast Go.Proofs.YtnnnlbbgmdoehaaDoor
open Go.Maps (Keyed)

/-- Few texts, and short ones. -/
def smallB (l : List ByteArray) : Bool := decide (l.length ≤ 1000) && l.all (fun s => decide (s.size ≤ 1000))
theorem small_len {l : List ByteArray} (h : smallB l = true) : l.length ≤ 1000 := by
  unfold smallB at h; simp at h; exact h.1
theorem small_at {l : List ByteArray} (h : smallB l = true) {k : Nat} (hk : k < l.length) : (l.getD k ByteArray.empty).size ≤ 1000 := by
  unfold smallB at h; simp at h
  rw [List.getD_eq_getElem?_getD, List.getElem?_eq_getElem hk]
  exact h.2 _ (List.getElem_mem hk)

/-- A cell of a row of texts that is read. -/
theorem C_cell {w : World} {A : Option Addr} {l : List ByteArray} (h : Kd.C Kd.string w A l.length l) {k : Nat} (hk : k < l.length) :
    ∃ b off, A = some ⟨b, off, none⟩ ∧ ∀ j, j < l.length → w.cell? ⟨b, off + j, none⟩ = some (.string (l.getD j ByteArray.empty)) := by
  obtain ⟨⟨b, off, sp⟩, rfl, hc⟩ := h.2.2 (by omega)
  have key : ∀ j, j < l.length → w.cell? ((⟨b, off, sp⟩ : Addr).add j) = some (.string (l.getD j ByteArray.empty)) := by
    intro j hj
    obtain ⟨c, h1, h2, h3⟩ := hc j _ (List.getElem?_eq_getElem hj)
    have := h3 0 (.string l[j]) (by rw [show c = [.string l[j]] from h2]; rfl)
    rw [List.getD_eq_getElem?_getD, List.getElem?_eq_getElem hj]
    simpa [Kd.string, Kd.scalar] using this
  have h0 := key 0 (by omega)
  obtain rfl : sp = none := by
    cases sp with
    | none => rfl
    | some x =>
      exfalso
      simp only [Addr.add, if_true, World.cell?] at h0
      split at h0 <;> simp at h0
  refine ⟨b, off, rfl, fun j hj => ?_⟩
  have := key j hj
  unfold Addr.add at this
  split at this
  · rename_i hz; subst hz; simpa using this
  · exact this

/-! ### sets of texts -/
def litS (s : ByteArray) : Lit := .string s.data.toList
theorem litS_inj {s t : ByteArray} (h : litS s = litS t) : s = t := by
  unfold litS at h
  injection h with h
  cases s; cases t
  simpa using h
theorem litS_key (s : ByteArray) : WideAt.IsKeyLit (litS s) := by unfold litS WideAt.IsKeyLit; trivial
theorem litS_same (s t : ByteArray) : (litS s).sameKey (litS t) = decide (s = t) := by
  by_cases h : s = t
  · subst h; rw [WideAt.sameKey_self (litS_key s)]; simp
  · rw [Maps.sameKey_ne (fun e => h (litS_inj e))]; simp [h]

theorem law : Keyed Tryd.prog 9 := Maps.string_keyed Tryd.underlying9
def setD (l : List ByteArray) : DataW Nat := Maps.setOf (.lit (.bool true)) (l.map litS)
/-- Block b is the set of these texts, of at most n entries. -/
def SetAt (w : World) (b n : Nat) (l : List ByteArray) : Prop := w.ownsMap (H := Nat) Tryd.prog 9 (plainElem Tryd.prog 4) b n (setD l)
theorem setD_snoc (l : List ByteArray) (s : ByteArray) : (setD l).put (litS s) (.lit (.bool true)) = setD (l ++ [s]) := by
  unfold setD; rw [List.map_append]; exact (Maps.setOf_snoc _ _ _).symm

theorem atKey_fold (k : Lit) (hk : WideAt.IsKeyLit k) : ∀ (acc : List Lit) (m : DataW Nat), Maps.IsMap m → (∀ x ∈ acc, WideAt.IsKeyLit x) →
    (acc.foldl (fun m x => m.put x (.lit (.bool true))) m).atKey k (.lit (.bool false)) = if acc.any (fun x => x.sameKey k) then .lit (.bool true) else m.atKey k (.lit (.bool false))
  | [], m, _, _ => by simp
  | x :: r, m, hm, h => by
    rw [List.foldl_cons, atKey_fold k hk r _ (hm.put x _) (fun y hy => h y (by simp [hy])), List.any_cons]
    by_cases e : x = k
    · subst e
      rw [Maps.atKey_put_same hm hk, WideAt.sameKey_self hk]
      simp
    · rw [Maps.atKey_put_other (fun e' => e e'.symm), Maps.sameKey_ne e]
      simp
theorem setD_at (l : List ByteArray) (s : ByteArray) : (setD l).atKey (litS s) (.lit (.bool false)) = .lit (.bool (l.any (fun x => decide (x = s)))) := by
  unfold setD Maps.setOf
  rw [atKey_fold _ (litS_key s) _ _ Maps.isMap_empty (fun x hx => by obtain ⟨y, _, rfl⟩ := List.mem_map.1 hx; exact litS_key y)]
  rw [List.any_map]
  have : ((fun x => x.sameKey (litS s)) ∘ litS) = fun x => decide (x = s) := by funext x; exact litS_same x s
  rw [this]
  cases l.any (fun x => decide (x = s)) <;> rfl

/-- The lists that have no name twice have as many keys as names; the others have fewer. -/
theorem addKey_len : ∀ (l : List ByteArray) (L : List Lit), (∀ x ∈ L, WideAt.IsKeyLit x) → ((l.map litS).foldl Maps.addKey L).length ≤ L.length + l.length
  | [], L, _ => by simp
  | s :: r, L, h => by
    rw [List.map_cons, List.foldl_cons]
    have ih := addKey_len r (Maps.addKey L (litS s)) (by
      intro x hx
      unfold Maps.addKey at hx
      split at hx
      · exact h x hx
      · rcases List.mem_append.1 hx with hx | hx
        · exact h x hx
        · rw [List.mem_singleton.1 hx]; exact litS_key s)
    have : (Maps.addKey L (litS s)).length ≤ L.length + 1 := by unfold Maps.addKey; split <;> simp
    simp only [List.length_cons]
    omega
theorem addKey_nodup : ∀ (l : List ByteArray) (L : List ByteArray), ((l.map litS).foldl Maps.addKey (L.map litS)).length = L.length + l.length ↔ (l.Nodup ∧ ∀ x ∈ l, x ∉ L)
  | [], L => by simp
  | s :: r, L => by
    rw [List.map_cons, List.foldl_cons]
    have hany : (L.map litS).any (fun y => y.sameKey (litS s)) = L.any (fun x => decide (x = s)) := by
      rw [List.any_map]
      have : ((fun y => y.sameKey (litS s)) ∘ litS) = fun x => decide (x = s) := by funext x; exact litS_same x s
      rw [this]
    by_cases hs : s ∈ L
    · have e : Maps.addKey (L.map litS) (litS s) = L.map litS := by unfold Maps.addKey; rw [hany, List.any_eq_true.2 ⟨s, hs, by simp⟩]; rfl
      rw [e]
      have hle := addKey_len r (L.map litS) (fun x hx => by obtain ⟨y, _, rfl⟩ := List.mem_map.1 hx; exact litS_key y)
      rw [List.length_map] at hle
      constructor
      · intro h; simp only [List.length_cons] at h; omega
      · rintro ⟨_, h⟩; exact absurd hs (h s (by simp))
    · have e : Maps.addKey (L.map litS) (litS s) = (L ++ [s]).map litS := by unfold Maps.addKey; rw [hany, List.any_eq_false.2 (fun x hx => by simp; rintro rfl; exact hs hx)]; simp
      rw [e]
      have ih := addKey_nodup r (L ++ [s])
      simp only [List.length_append, List.length_singleton] at ih
      rw [List.length_cons, show L.length + (r.length + 1) = L.length + 1 + r.length by omega, ih, List.nodup_cons]
      constructor
      · rintro ⟨h1, h2⟩
        refine ⟨⟨fun hm => ?_, h1⟩, fun x hx hL => ?_⟩
        · exact h2 s hm (by simp)
        · rcases List.mem_cons.1 hx with rfl | hx
          · exact hs hL
          · exact h2 x hx (by simp [hL])
      · rintro ⟨⟨h1, h2⟩, h3⟩
        refine ⟨h2, fun x hx hm => ?_⟩
        rcases List.mem_append.1 hm with hm | hm
        · exact h3 x (by simp [hx]) hm
        · rw [List.mem_singleton.1 hm] at hx; exact h1 hx
theorem setD_size (l : List ByteArray) : decide (Maps.size (setD l) < l.length) = !decide l.Nodup := by
  have h1 : Maps.size (setD l) = ((l.map litS).foldl Maps.addKey []).length := Maps.size_setOf _ _ (fun x hx => by obtain ⟨y, _, rfl⟩ := List.mem_map.1 hx; exact litS_key y)
  have h2 := addKey_len l [] (by simp)
  have h3 := addKey_nodup l []
  rw [List.map_nil] at h3
  rw [h1]
  by_cases hn : l.Nodup
  · have := h3.2 ⟨hn, by simp⟩
    simp [hn]
    simp at this
    omega
  · have hne : ¬ ((l.map litS).foldl Maps.addKey []).length = l.length := fun e => hn (h3.1 (by rw [e]; simp)).1
    simp [hn]
    simp at hne h2
    omega
end Go.Proofs.YtnnnlbbgmdoehaaDoor.Df
