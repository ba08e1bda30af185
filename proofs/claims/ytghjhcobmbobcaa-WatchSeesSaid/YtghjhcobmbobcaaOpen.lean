/- Opening a law's arguments: flat values (numbers, bools, strings, structs and arrays of these), slices of them. -/
import Derived.Test.YtghjhcobmbobcaaMem
import Derived.Deep.Slices
import Derived.ProofKit
import Derived.OpenShut
import Derived.SizedLaws
import Derived.ChangeOld
import Derived.Carry
namespace Go.Proofs.Ytghjhcobmbobcaa
open Go.RowKit Go.ChangeShapes Go.WideShapes Go.ChangeAt Go.Deep

/-- kinds of cells -/
inductive FK where | int | str | bool
def leafOk : FK → Value → Prop
  | .int, v => ∃ n, v = .int .i64 n ∧ (Lit.int .i64 n).wf = true
  | .str, v => ∃ s, v = .string s ∧ s.size ≤ maxLen
  | .bool, v => ∃ b, v = .bool b
/-- whatever reads as type t is of these cells -/
def Flat (P : Program) (t : TypeId) (ks : List FK) : Prop := ∀ (H : Type) (enc : TypeId × Value → H) (w : World) (base : Nat) (spare : Nat → Bool) (held : Bool) (fuel : Nat) (cs : List Value) (x : DataW H × List MemPlace),
  DataW.trod enc P w base spare held fuel t cs = some x → cs.length = ks.length ∧ ∀ (i : Nat) (k : FK), ks[i]? = some k → ∃ v, cs[i]? = some v ∧ leafOk k v
section
variable {P : Program} {t : TypeId}
theorem Flat.int (h : P.underlying t = some (.int .i64)) : Flat P t [.int] := by
  intro H enc w base spare held fuel cs x hx
  obtain ⟨n, rfl, _, hw⟩ := DataW.trod_int h hx
  refine ⟨rfl, fun i k hk => ?_⟩
  match i, hk with
  | 0, hk => simp at hk; subst hk; exact ⟨_, rfl, n, rfl, hw⟩
  | i + 1, hk => simp at hk
theorem Flat.str (h : P.underlying t = some .string) : Flat P t [.str] := by
  intro H enc w base spare held fuel cs x hx
  obtain ⟨n, rfl, _, hw⟩ := DataW.trod_string h hx
  refine ⟨rfl, fun i k hk => ?_⟩
  match i, hk with
  | 0, hk => simp at hk; subst hk; exact ⟨_, rfl, n, rfl, hw⟩
  | i + 1, hk => simp at hk
theorem Flat.bool (h : P.underlying t = some .bool) : Flat P t [.bool] := by
  intro H enc w base spare held fuel cs x hx
  obtain ⟨n, rfl, _⟩ := DataW.trod_bool h hx
  refine ⟨rfl, fun i k hk => ?_⟩
  match i, hk with
  | 0, hk => simp at hk; subst hk; exact ⟨_, rfl, n, rfl⟩
  | i + 1, hk => simp at hk
/-- a struct: each cell lies in a field -/
theorem Flat.struct {fs : Array Field} {ks : List FK} (h : P.underlying t = some (.struct fs)) (hc : P.cellsOf t = ks.length)
    (hf : ∀ (i : Nat) (k : FK), ks[i]? = some k → ∃ (j : Nat) (f : Field) (kf : List FK), fs[j]? = some f ∧ f.offset ≤ i ∧ i < f.offset + kf.length ∧ Flat P f.type kf ∧ P.cellsOf f.type = kf.length ∧ kf[i - f.offset]? = some k) : Flat P t ks := by
  intro H enc w base spare held fuel cs x hx
  obtain ⟨xs, n, _, _, hl, hlen, hg⟩ := DataW.trod_struct h hx
  refine ⟨hl.trans hc, fun i k hk => ?_⟩
  obtain ⟨j, f, kf, hj, h1, h2, hF, hcf, hkf⟩ := hf i k hk
  have hjl : j < xs.length := by rw [hlen]; exact (Array.getElem?_eq_some_iff.1 hj).1
  have hy := hg j f hj
  rw [List.getElem?_eq_getElem hjl] at hy
  obtain ⟨_, hv⟩ := hF H enc w base spare held n _ _ hy
  obtain ⟨v, hv1, hv2⟩ := hv _ k hkf
  refine ⟨v, ?_, hv2⟩
  rw [List.getElem?_take, if_pos (by omega), List.getElem?_drop] at hv1
  rwa [show f.offset + (i - f.offset) = i by omega] at hv1
theorem Flat.array {e : TypeId} {n : Nat} {ks ke : List FK} (h : P.underlying t = some (.array n e)) (hc : P.cellsOf t = ks.length) (hF : Flat P e ke) (hce : P.cellsOf e = ke.length)
    (hf : ∀ (i : Nat) (k : FK), ks[i]? = some k → i / ke.length < n ∧ ke[i % ke.length]? = some k) : Flat P t ks := by
  intro H enc w base spare held fuel cs x hx
  obtain ⟨xs, m, _, _, hl, hlen, hg⟩ := DataW.trod_array h hx
  refine ⟨hl.trans hc, fun i k hk => ?_⟩
  obtain ⟨h1, h2⟩ := hf i k hk
  have hy := hg _ h1
  have hjl : i / ke.length < xs.length := by rw [hlen]; exact h1
  rw [List.getElem?_eq_getElem hjl] at hy
  obtain ⟨_, hv⟩ := hF H enc w base spare held m _ _ hy
  obtain ⟨v, hv1, hv2⟩ := hv _ k h2
  refine ⟨v, ?_, hv2⟩
  have hlt : i % ke.length < ke.length := by
    rcases Nat.lt_or_ge (i % ke.length) ke.length with h | h
    · exact h
    · rw [List.getElem?_eq_none h] at h2; cases h2
  rw [List.getElem?_take, if_pos (by omega), List.getElem?_drop, hce] at hv1
  rwa [show i / ke.length * ke.length + i % ke.length = i from Nat.div_add_mod' i ke.length] at hv1
end

/-- cells at an address that need not be there where there are none -/
def Rds (w : World) (A : Option Addr) (xs : List Value) : Prop := xs ≠ [] → ∃ g o, A = some ⟨g, o, none⟩ ∧ g < w.heap.size ∧ ∀ j u, xs[j]? = some u → w.cell? ⟨g, o + j, none⟩ = some u
theorem Rds.b {w w' : World} {A : Option Addr} {xs : List Value} (h : Rds w A xs) (hb : B w w') : Rds w' A xs := fun hx => by
  obtain ⟨g, o, hA, hg, hc⟩ := h hx
  exact ⟨g, o, hA, Nat.lt_of_lt_of_le hg hb.size, fun j u hu => (hb.cell (p := ⟨g, o + j, none⟩) hg).trans (hc j u hu)⟩
theorem Rds.at_ {w : World} {A : Option Addr} {xs : List Value} (h : Rds w A xs) {j : Nat} {u : Value} (hu : xs[j]? = some u) : ∃ g o, A = some ⟨g, o, none⟩ ∧ g < w.heap.size ∧ ∀ j u, xs[j]? = some u → w.cell? ⟨g, o + j, none⟩ = some u :=
  h (fun e => by rw [e] at hu; simp at hu)
theorem Sl.rds {w : World} {e : TypeId} {size n c : Nat} {A : Option Addr} {xs : List Value} (h : Sl w e size (.slice A n c) n xs) : Rds w A xs := fun hx => by
  refine h.cells ?_
  rcases Nat.eq_zero_or_pos n with h0 | h0
  · exact absurd (List.eq_nil_of_length_eq_zero (by rw [h.1, h0, Nat.zero_mul])) hx
  · exact h0

section
variable {H : Type} {enc : TypeId × Value → H} {P : Program} {w : World} {base : Nat} {spare : Nat → Bool} {held : Bool}
/-- a struct or array by value -/
theorem open_flat {t : TypeId} {v : Value} {d : DataW H} {p : List MemPlace} {cs : Array Value} {ks : List FK} (hF : Flat P t ks) (hv : v = .agg cs) (h : DataW.Trod enc P w base spare held t v d p) :
    cs.size = ks.length ∧ ∀ (i : Nat) (k : FK), ks[i]? = some k → ∃ u, cs[i]? = some u ∧ leafOk k u := by
  obtain ⟨fuel, hf⟩ := h
  subst hv
  obtain ⟨h1, h2⟩ := hF H enc w base spare held fuel _ _ hf
  exact ⟨by simpa [Value.cells] using h1, fun i k hk => by obtain ⟨u, h3, h4⟩ := h2 i k hk; exact ⟨u, by simpa [Value.cells] using h3, h4⟩⟩
/-- a slice of flat elements: its cells, and each of the kind that its place asks -/
theorem open_flats {t e : TypeId} {v : Value} {d : DataW H} {p : List MemPlace} {ks : List FK} (ht : P.underlying t = some (.slice e)) (hF : Flat P e ks) (hc : P.cellsOf e = ks.length) (hpos : 0 < ks.length)
    {A : Option Addr} {len cap : Nat} (hv : v = .slice A len cap) (h : DataW.Trod enc P w base spare held t v d p) :
    len ≤ cap ∧ cap ≤ maxLen ∧ (∃ el sp, (len = 0 ∧ cap = 0 ∧ d = .nil) ∨ (d = .slice el sp ∧ el.length = len)) ∧
    ∃ xs : List Value, xs.length = len * ks.length ∧ Rds w A xs ∧ ∀ (i j : Nat) (k : FK), i < len → ks[j]? = some k → ∃ u, xs[i * ks.length + j]? = some u ∧ leafOk k u := by
  obtain ⟨fuel, hf⟩ := h
  subst hv
  rcases open_slice ht hf with ⟨h0, hx⟩ | ⟨a, len', cap', m, n, D, Pl, hcs, hb, hl, hm, hmm, hx, hi⟩
  · simp [Value.cells] at h0
    obtain ⟨rfl, rfl, rfl⟩ := h0
    simp only [Prod.mk.injEq] at hx
    exact ⟨Nat.le_refl _, Nat.zero_le _, ⟨[], [], .inl ⟨rfl, rfl, hx.1⟩⟩, [], by simp, fun h => absurd rfl h, fun i j k hlt => by omega⟩
  · simp [Value.cells] at hcs
    obtain ⟨rfl, rfl, rfl⟩ := hcs
    simp only [Prod.mk.injEq] at hx
    have hlm : len ≤ m := by rw [hmm]; split <;> omega
    refine ⟨hl, hm, ⟨_, _, .inr ⟨hx.1, by simp⟩⟩, ?_⟩
    rw [hc] at hi
    -- the cells, one by one
    have hall : ∀ q, q < len * ks.length → ∃ u, w.cell? (a.add q) = some u ∧ ∀ k, ks[q % ks.length]? = some k → leafOk k u := by
      intro q hq
      have hq1 : q / ks.length < len := (Nat.div_lt_iff_lt_mul hpos).2 hq
      obtain ⟨cs', hcs', htr⟩ := hi (q / ks.length) (by omega)
      obtain ⟨_, hlen, hat⟩ := World.cells?_some hcs'
      obtain ⟨_, hv⟩ := hF H enc w base spare held n _ _ htr
      have hmod : q % ks.length < ks.length := Nat.mod_lt _ hpos
      have hk : ks[q % ks.length]? = some (ks[q % ks.length]'hmod) := List.getElem?_eq_getElem hmod
      obtain ⟨u, hu1, hu2⟩ := hv _ _ hk
      have hcell := hat _ hmod
      rw [Go.Deep.add_add, hu1, show q / ks.length * ks.length + q % ks.length = q from Nat.div_add_mod' q ks.length] at hcell
      refine ⟨u, hcell, fun k hk' => ?_⟩
      rw [hk] at hk'
      injection hk' with hk'
      exact hk' ▸ hu2
    refine ⟨(List.range (len * ks.length)).map fun q => (w.cell? (a.add q)).getD undef, by simp, ?_, ?_⟩
    · intro hne
      have h0 : 0 < len * ks.length := by
        rcases Nat.eq_zero_or_pos (len * ks.length) with h | h
        · rw [h] at hne; simp at hne
        · exact h
      obtain ⟨u, hu, _⟩ := hall 0 h0
      rw [show a.add 0 = a by simp [Addr.add]] at hu
      have hsp : a.spot = none := by
        cases hs : a.spot with
        | none => rfl
        | some s => simp [World.cell?, hs] at hu; split at hu <;> simp_all
      obtain ⟨g, o, s⟩ := a
      simp at hsp
      subst hsp
      refine ⟨g, o, rfl, World.block_lt_of_cell? w _ hu, fun j u' hu' => ?_⟩
      have hj : j < len * ks.length := by
        rcases Nat.lt_or_ge j (len * ks.length) with h | h
        · exact h
        · rw [List.getElem?_eq_none (by simpa using h)] at hu'; cases hu'
      obtain ⟨u2, hu2, _⟩ := hall j hj
      simp [hj] at hu'
      rw [hu2] at hu'
      rw [← addr_add, hu2]
      simpa using hu'
    · intro i j k hlt hk
      have hj : j < ks.length := by
        rcases Nat.lt_or_ge j ks.length with h | h
        · exact h
        · rw [List.getElem?_eq_none h] at hk; cases hk
      have hq : i * ks.length + j < len * ks.length := by
        have : (i + 1) * ks.length ≤ len * ks.length := Nat.mul_le_mul_right _ hlt
        rw [Nat.add_mul, Nat.one_mul] at this
        omega
      obtain ⟨u, hu1, hu2⟩ := hall _ hq
      refine ⟨u, ?_, hu2 k ?_⟩
      · simp [hq, hu1]
      · rw [Nat.mul_comm, Nat.mul_add_mod, Nat.mod_eq_of_lt hj, hk]
end
end Go.Proofs.Ytghjhcobmbobcaa
