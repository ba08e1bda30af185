/- Numbers and their texts, plainly. -/
import Derived.Test.YthalpaggcdpcbaaDoorTSt
import Derived.Lib.AtoiAllCases
namespace Go.Proofs.YthalpaggcdpcbaaDoor.Cf
open Go.RowKit Go.Proofs.YthalpaggcdpcbaaDoor Go.Proofs.YthalpaggcdpcbaaDoor.Nm
theorem wf_of {v : Int} (h : -9223372036854775808 ≤ v ∧ v ≤ 9223372036854775807) : (Lit.int .i64 v).wf = true := by
  simpa [Lit.wf, IntKind.min, IntKind.max, IntKind.signed, IntKind.bits] using h
theorem wf_to {v : Int} (h : (Lit.int .i64 v).wf = true) : -9223372036854775808 ≤ v ∧ v ≤ 9223372036854775807 := by
  simpa [Lit.wf, IntKind.min, IntKind.max, IntKind.signed, IntKind.bits] using h
/-- What a text is as a number: the number, if it is one. -/
def numV (s : ByteArray) : Option Int := numOf s.data.toList
/-- What is answered: a number, and whether it is one. -/
def NumPost (s : ByteArray) (w : World) (e : Ending) (w' : World) : Prop := ∃ n ok, e = .returned (.tuple #[.int .i64 n, .bool ok]) ∧ ok = (numV s).isSome ∧ (∀ v, numV s = some v → n = v) ∧ Below w.heap.size w w'
theorem numNo {s : ByteArray} {w w' : World} (hn : numV s = none) (n : Int) (hb : Below w.heap.size w w') : NumPost s w (.returned (.tuple #[.int .i64 n, .bool false])) w' :=
  ⟨n, false, rfl, by rw [hn]; rfl, fun x hx => (by rw [hn] at hx; cases hx), hb⟩
theorem numYes {s : ByteArray} {w w' : World} {v : Int} (hn : numV s = some v) (hb : Below w.heap.size w w') : NumPost s w (.returned (.tuple #[.int .i64 v, .bool true])) w' :=
  ⟨v, true, rfl, by rw [hn]; rfl, fun x hx => by rw [hn] at hx; exact Option.some.inj hx, hb⟩
theorem str_eq {a b : ByteArray} : (a.toList == b.toList) = decide (a.data.toList = b.data.toList) := by
  rw [ByteArray.toList_eq, ByteArray.toList_eq]
  by_cases h : a.data.toList = b.data.toList
  · rw [h]; simp
  · rw [decide_eq_false h]; exact beq_eq_false_iff_ne.2 h
theorem itoa_len {x : Int} (h : (Lit.int .i64 x).wf = true) : (Lib.itoa x).length ≤ 100 := by
  have h2 := wf_to h
  have hx : x.natAbs < 10 ^ 20 := by omega
  have key : ∀ (k u : Nat), u < 10 ^ (k + 1) → Lib.nDigits u ≤ k + 1 := by
    intro k
    induction k with
    | zero => intro u hu; rw [Lib.nDigits_small (by simpa using hu)]; exact Nat.le_refl _
    | succ k ih =>
      intro u hu
      by_cases h : u < 10
      · rw [Lib.nDigits_small h]; omega
      · rw [Lib.nDigits_big h]
        have := ih (u / 10) (by rw [Nat.pow_succ] at hu; omega)
        omega
  have h3 := key 19 x.natAbs hx
  unfold Lib.itoa
  split
  · rw [List.length_cons, Lib.decDigits_length]; omega
  · rename_i hn
    have e : x.toNat = x.natAbs := by omega
    rw [e, Lib.decDigits_length]; omega
theorem join_le {sep : List UInt8} (hs : sep.length ≤ 1) {B : Nat} : ∀ {L : List (List UInt8)}, (∀ x ∈ L, x.length ≤ B) → (Lib.join L sep).length ≤ L.length * (B + 1)
  | [], _ => by simp [Lib.join_nil]
  | [y], h => by
    rw [Lib.join_one]
    have := h y (by simp)
    simp only [List.length_singleton]
    omega
  | y :: z :: r, h => by
    have ih := join_le hs (L := z :: r) (fun x hx => h x (by simp [hx]))
    have := h y (by simp)
    rw [Sp.join_two, List.length_append, List.length_append, List.length_cons, Nat.add_mul]
    omega
end Go.Proofs.YthalpaggcdpcbaaDoor.Cf
