/- Opening a law's arguments where what they hold together is bounded: the texts among them. -/
import Derived.Test.YthalpaggcdpcbaaDoorRows
import Derived.Test.YthalpaggcdpcbaaDoorOpen
namespace Go.Proofs.YthalpaggcdpcbaaDoor
open Go.RowKit Go.ChangeShapes Go.WideShapes Go.ChangeAt Go.Deep
theorem bulk_part {H : Type} {d : DataW H} {l : List (DataW H)} (h : d ∈ l) : Rows.uptoBulk d ≤ Rows.uptoBulkAll l := by
  induction l with
  | nil => cases h
  | cons x r ih =>
    simp only [Rows.uptoBulkAll]
    cases List.mem_cons.1 h with
    | inl e => subst e; omega
    | inr e => have := ih e; omega
theorem bulk_agg {H : Type} (l : List (DataW H)) : Rows.uptoBulkAll l ≤ Rows.uptoBulk (.agg l) := by simp only [Rows.uptoBulk]; omega
theorem bulk_slice {H : Type} (l r : List (DataW H)) : Rows.uptoBulkAll l ≤ Rows.uptoBulk (.slice l r) := by simp only [Rows.uptoBulk]; omega
theorem bulk_string {H : Type} (bytes : List UInt8) : Rows.uptoBulk (DataW.lit (H := H) (.string bytes)) = bytes.length + 1 := by simp [Rows.uptoBulk]
theorem bulk_bound {H : Type} {l : List (DataW H)} (hk : Rows.uptoSmall H l = true) : Rows.uptoBulkAll l ≤ 1048576 := of_decide_eq_true hk
/-- The texts among a value's cells are no longer than the value's bulk. -/
def FlatB (P : Program) (t : TypeId) : Prop := ∀ (H : Type) (enc : TypeId × Value → H) (w : World) (base : Nat) (spare : Nat → Bool) (held : Bool) (fuel : Nat) (cs : List Value) (x : DataW H × List MemPlace),
  DataW.trod enc P w base spare held fuel t cs = some x → ∀ (i : Nat) (s : ByteArray), cs[i]? = some (.string s) → s.size ≤ Rows.uptoBulk x.1
section
variable {P : Program} {t : TypeId}
theorem FlatB.int (h : P.underlying t = some (.int .i64)) : FlatB P t := by
  intro H enc w base spare held fuel cs x hx i s hs
  obtain ⟨n, rfl, _, hw⟩ := DataW.trod_int h hx
  match i, hs with
  | 0, hs => simp at hs
  | i + 1, hs => simp at hs
theorem FlatB.str (h : P.underlying t = some .string) : FlatB P t := by
  intro H enc w base spare held fuel cs x hx i s hs
  obtain ⟨n, rfl, rfl, hw⟩ := DataW.trod_string h hx
  match i, hs with
  | 0, hs =>
    simp at hs
    subst hs
    simp only [bulk_string]
    have : n.data.toList.length = n.size := by simp
    omega
  | i + 1, hs => simp at hs
theorem FlatB.struct {fs : Array Field} {n : Nat} (h : P.underlying t = some (.struct fs)) (hc : P.cellsOf t = n)
    (hf : ∀ i, i < n → ∃ (j : Nat) (f : Field), fs[j]? = some f ∧ f.offset ≤ i ∧ i < f.offset + P.cellsOf f.type ∧ FlatB P f.type) : FlatB P t := by
  intro H enc w base spare held fuel cs x hx i s hs
  obtain ⟨xs, m, _, rfl, hl, hlen, hg⟩ := DataW.trod_struct h hx
  have hi : i < n := by rw [← hc, ← hl]; exact (List.getElem?_eq_some_iff.1 hs).1
  obtain ⟨j, f, hj, h1, h2, hF⟩ := hf i hi
  have hjl : j < xs.length := by rw [hlen]; exact (Array.getElem?_eq_some_iff.1 hj).1
  have hy := hg j f hj
  rw [List.getElem?_eq_getElem hjl] at hy
  have := hF H enc w base spare held m _ _ hy (i - f.offset) s (by
    rw [List.getElem?_take, if_pos (by omega), List.getElem?_drop, show f.offset + (i - f.offset) = i by omega]
    exact hs)
  have h3 := bulk_part (d := xs[j].1) (l := xs.map (·.1)) (List.mem_map.2 ⟨xs[j], List.getElem_mem hjl, rfl⟩)
  have h4 := bulk_agg (xs.map (·.1))
  simp only
  omega
end
section
variable {H : Type} {enc : TypeId × Value → H} {P : Program} {w : World} {base : Nat} {spare : Nat → Bool} {held : Bool}
theorem flats_bulk {t e : TypeId} {d : DataW H} {p : List MemPlace} {k : Nat} (ht : P.underlying t = some (.slice e)) (hF : FlatB P e) (hc : P.cellsOf e = k) (hpos : 0 < k)
    {g o len cap : Nat} (h : DataW.Trod enc P w base spare held t (.slice (some ⟨g, o, none⟩) len cap) d p) (q : Nat) (hq : q < len * k) (s : ByteArray) (hs : w.cell? ⟨g, o + q, none⟩ = some (.string s)) : s.size ≤ Rows.uptoBulk d := by
  obtain ⟨fuel, hf⟩ := h
  rcases open_slice ht hf with ⟨h0, hx⟩ | ⟨a, len', cap', m, n, D, Pl, hcs, hb, hl, hm, hmm, hx, hi⟩
  · simp [Value.cells] at h0
  · simp [Value.cells] at hcs
    obtain ⟨rfl, rfl, rfl⟩ := hcs
    simp only [Prod.mk.injEq] at hx
    have hlm : len ≤ m := by rw [hmm]; split <;> omega
    have hq1 : q / k < len := (Nat.div_lt_iff_lt_mul hpos).2 hq
    obtain ⟨cs', hcs', htr⟩ := hi (q / k) (by omega)
    rw [hc] at hcs'
    obtain ⟨_, hlen, hat⟩ := World.cells?_some hcs'
    have hmod : q % k < k := Nat.mod_lt _ hpos
    have hcell := hat _ hmod
    rw [Go.Deep.add_add, show q / k * k + q % k = q from Nat.div_add_mod' q k, addr_add, hs] at hcell
    have := hF H enc w base spare held n _ _ htr (q % k) s hcell.symm
    have h3 := bulk_part (d := D (q / k)) (l := (List.range len).map D) (List.mem_map.2 ⟨q / k, List.mem_range.2 hq1, rfl⟩)
    have h4 := bulk_slice ((List.range len).map D) ((List.range (m - len)).map fun j => D (len + j))
    rw [hx.1]
    simp only at this
    omega
end
end Go.Proofs.YthalpaggcdpcbaaDoor
