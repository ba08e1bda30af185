/- General laws that this claim's walks use: gates, arrays by value, a row loaded and stored whole. -/
import Derived.Test.YtghjhcobmbobcaaChecked
import Derived.WalkKit
import Derived.WalkSpells
import Derived.WalkLawsBesides
import Derived.Lib.Hide
import Derived.Deep.WholeRow
namespace Go.Proofs.Ytghjhcobmbobcaa
open Go.RowKit

section gates
variable {P : Program} {ops : Array Oper} {rest : List Oper} {o : Oper} {a : Act} {w : World} {Q : Exit → Act → World → Prop}
theorem at_store {t : TypeId} {x y : Operand} (_ : o.op = .store t x y) (h : wpList P ops Q (o :: rest) a w) : wpList P ops Q (o :: rest) a w := h
theorem at_dst {n : Nat} (_ : o.dst = some n) (h : wpList P ops Q (o :: rest) a w) : wpList P ops Q (o :: rest) a w := h
end gates

theorem heap_at_new {w : World} {n : Nat} (o : Obj) (h : n = w.heap.size) : (w.alloc o).heap[n]? = some o := by subst h; exact heap_alloc_new w o
theorem heap_at_old {w : World} {n : Nat} {o : Obj} {x : Option Obj} (h : n < w.heap.size) (hx : w.heap[n]? = x) : (w.alloc o).heap[n]? = x := (heap_alloc_old w o h).trans hx
theorem bcell {W w1 : World} (hb : Below W.heap.size W w1) : (∀ b o, b < W.heap.size → w1.cell? ⟨b, o, none⟩ = W.cell? ⟨b, o, none⟩) ∧ (∀ b o, b < W.heap.size → w1.frozen? ⟨b, o, none⟩ = W.frozen? ⟨b, o, none⟩) :=
  ⟨fun b o h => hb.cell (p := ⟨b, o, none⟩) h, fun b o h => hb.frozen (p := ⟨b, o, none⟩) h⟩
/-- Nothing that was there has changed. -/
abbrev B (w w' : World) : Prop := Below w.heap.size w w'
theorem B_refl (w : World) : B w w := Below.refl _ _
theorem B_size {w w1 : World} (h : B w w1) : w.heap.size ≤ w1.heap.size := h.size
theorem B_alloc {w w1 : World} (h : B w w1) (o : Obj) : B w (w1.alloc o) := h.alloc h.size o
theorem B_drew {w w1 : World} (h : B w w1) : B w w1.drew := h.drew
theorem B_drewN {w w1 : World} (h : B w w1) (n : Nat) : B w (w1.drewN n) := ⟨h.os, h.tape, h.output, h.size, h.block⟩
theorem B_setCell {w w1 : World} (h : B w w1) {p : Addr} (hp : w.heap.size ≤ p.block) (u : Value) : B w (w1.setCell p u) := h.setCell hp u
theorem B_trans {w w1 w2 : World} (h : B w w1) (h' : B w1 w2) : B w w2 := h.trans (h'.mono h.size)
/-- An element of an array that came by value, the element an array or a struct. -/
theorem run_index_agg {P : Program} {t e : TypeId} {n sz : Nat} {d : TypeDesc} (hu : P.underlying t = some (.array n e)) (he : P.underlying e = some d)
    (hd : (match d with | .struct _ | .array _ _ => true | _ => false) = true) (hi : (P.info? e).map (·.size) = some sz)
    (cs : Array Value) (i : Int) (h0 : 0 ≤ i) (h1 : i < n) (w : World) :
    (Instr.index t (.agg cs) (.int .i64 i)).run P w = .ok (.agg (cs.extract (i.toNat * sz) (i.toNat * sz + sz))) w := by
  cases hq : P.info? e with
  | none => simp [hq] at hi
  | some j =>
    have hs : j.size = sz := by simpa [hq] using hi
    have hagg : (isAgg e).run P w = .ok true w := by
      unfold isAgg
      rw [Sem.run_bind, run_underlying he w]
      cases d <;> simp_all
    simp [Instr.index, asIntOf, run_underlying hu, h0, h1, part, Sem.run_bind, hagg, sizeOf, typeInfo, hq, hs]
/-- An element of one cell. -/
theorem run_index_one {P : Program} {t e : TypeId} {n : Nat} {d : TypeDesc} (hu : P.underlying t = some (.array n e)) (he : P.underlying e = some d)
    (hd : (match d with | .struct _ | .array _ _ => false | _ => true) = true) (hi : (P.info? e).map (·.size) = some 1)
    (cs : Array Value) (i : Int) (h0 : 0 ≤ i) (h1 : i < n) (v : Value) (hv : cs[i.toNat]? = some v) (w : World) :
    (Instr.index t (.agg cs) (.int .i64 i)).run P w = .ok v w := by
  cases hq : P.info? e with
  | none => simp [hq] at hi
  | some j =>
    have hs : j.size = 1 := by simpa [hq] using hi
    have hagg : (isAgg e).run P w = .ok false w := by
      unfold isAgg
      rw [Sem.run_bind, run_underlying he w]
      cases d <;> simp_all
    simp [Instr.index, asIntOf, run_underlying hu, h0, h1, part, Sem.run_bind, hagg, sizeOf, typeInfo, hq, hs, hv]
end Go.Proofs.Ytghjhcobmbobcaa
