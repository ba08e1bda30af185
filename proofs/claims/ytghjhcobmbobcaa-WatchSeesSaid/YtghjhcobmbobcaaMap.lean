/- A map of the call's own whose keys are ints, told as a function from ints: read, written, deleted from. -/
import Derived.Maps.OwnSet
import Derived.Maps.Views
namespace Go.Proofs.Ytghjhcobmbobcaa.Mp
open Go Go.Maps

/-- How an element of a map stands as a value, and how it reads. -/
structure Elem (α : Type) (R : Value → Option (DataW Nat × List MemPlace)) where
  enc : α → Value
  dat : α → DataW Nat
  zero : α
  solid : Bool
  reads : ∀ a, R (enc a) = some (dat a, [])
  inv : ∀ v a ps, R v = some (dat a, ps) → v = enc a

section
variable {α : Type} {R : Value → Option (DataW Nat × List MemPlace)} {P : Program} {k e t : TypeId}
/-- Block b is a map of at most n entries that holds f's values; where nothing is laid: the element's zero. -/
def MapOf (E : Elem α R) (P : Program) (k : TypeId) (w : World) (b n : Nat) (f : Int → α) : Prop :=
  ∃ D, w.ownsMap P k R b n D ∧ (∀ i, (Lit.int .i64 i).wf = true → D.atKey (.int .i64 i) (E.dat E.zero) = E.dat (f i)) ∧ (E.solid = true → ∀ i, (Lit.int .i64 i).wf = true → has D (.int .i64 i) = true → f i ≠ E.zero)
theorem MapOf.made (E : Elem α R) (w : World) : MapOf E P k (w.alloc (.map #[] 0)) w.heap.size 0 (fun _ => E.zero) := ⟨_, World.ownsMap_made w P k R, fun _ _ => rfl, fun _ _ _ h => (by cases h)⟩
theorem MapOf.kept {E : Elem α R} {w w' : World} {b n : Nat} {f : Int → α} {row : Option Nat} (h : MapOf E P k w b n f) (hg : w.grownBy w' row) (hne : some b ≠ row) : MapOf E P k w' b n f := by
  obtain ⟨D, ho, hf⟩ := h
  exact ⟨D, ho.kept hg hne, hf⟩
theorem MapOf.move {E : Elem α R} {w w' : World} {b n : Nat} {f : Int → α} (h : MapOf E P k w b n f) (hm : w'.heap[b]? = w.heap[b]?) : MapOf E P k w' b n f := by
  obtain ⟨D, ⟨es, clock, hb, r⟩, hf⟩ := h
  exact ⟨D, ⟨es, clock, hm.trans hb, r⟩, hf⟩
theorem MapOf.lt {E : Elem α R} {w : World} {b n : Nat} {f : Int → α} (h : MapOf E P k w b n f) : b < w.heap.size := h.choose_spec.1.lt
theorem MapOf.mono {E : Elem α R} {w : World} {b n m : Nat} {f : Int → α} (h : MapOf E P k w b n f) (hn : n ≤ m) : MapOf E P k w b m f := by
  obtain ⟨D, ho, hf⟩ := h
  exact ⟨D, ho.mono hn, hf⟩
theorem key_of (hk : P.underlying k = some (.int .i64)) {i : Int} (hi : (Lit.int .i64 i).wf = true) : keyOf P k (.int .i64 i) = some (.int .i64 i) := keyOf_int_mk hk hi
theorem MapOf.look {E : Elem α R} {w : World} {b n : Nat} {f : Int → α} (h : MapOf E P k w b n f) (hk : P.underlying k = some (.int .i64)) (ht : P.underlying t = some (.map k e)) (hz : (zeroValue e).run P w = .ok (E.enc E.zero) w) {i : Int} (hi : (Lit.int .i64 i).wf = true) :
    (Instr.lookup t (.map (some b)) (.int .i64 i) false).run P w = .ok (E.enc (f i)) w := by
  obtain ⟨D, ho, hf, _⟩ := h
  obtain ⟨v, ps, hrun, hv⟩ := ho.lookup (int_keyed hk) ht hz (E.reads E.zero) (key_of hk hi)
  rw [hf i hi] at hv
  rw [hrun, E.inv v _ ps hv]
def upd (f : Int → α) (i : Int) (a : α) : Int → α := fun j => if j = i then a else f j
theorem lit_ne {i j : Int} (h : j ≠ i) : (Lit.int .i64 j) ≠ .int .i64 i := fun e => h (by injection e)
theorem MapOf.store {E : Elem α R} {w : World} {b n : Nat} {f : Int → α} (h : MapOf E P k w b n f) (hk : P.underlying k = some (.int .i64)) (ht : P.underlying t = some (.map k e)) (hn : n < maxLen) {i : Int} (hi : (Lit.int .i64 i).wf = true) (a : α) (ha : E.solid = true → a ≠ E.zero) :
    ∃ w', (Instr.mapUpdate t (.map (some b)) (.int .i64 i) (E.enc a)).run P w = .ok () w' ∧ MapOf E P k w' b (n + 1) (upd f i a) ∧ w.grownBy w' (some b) := by
  obtain ⟨D, ho, hf, hs⟩ := h
  obtain ⟨w', hrun, ho', hg⟩ := ho.update (int_keyed hk) ht hn (key_of hk hi) (E.reads a)
  refine ⟨w', hrun, ⟨_, ho', fun j hj => ?_, fun hE j hj hh => ?_⟩, hg⟩
  · unfold upd
    by_cases hji : j = i
    · subst hji
      rw [if_pos rfl, atKey_put_same ho.isMap (by unfold WideAt.IsKeyLit; trivial)]
    · rw [if_neg hji, atKey_put_other (lit_ne hji), hf j hj]
  · unfold upd
    by_cases hji : j = i
    · rw [if_pos hji]; exact ha hE
    · rw [if_neg hji]
      rw [has_put_other (lit_ne hji)] at hh
      exact hs hE j hj hh
theorem MapOf.strike {E : Elem α R} {w : World} {b n : Nat} {f : Int → α} (h : MapOf E P k w b n f) (hk : P.underlying k = some (.int .i64)) (ht : P.underlying t = some (.map k e)) {i : Int} (hi : (Lit.int .i64 i).wf = true) (ty : TypeId) :
    ∃ w', (Builtin.delete_ #[t, k] ty #[.map (some b), .int .i64 i]).run P w = .ok (.tuple #[]) w' ∧ MapOf E P k w' b n (upd f i E.zero) ∧ w.grownBy w' (some b) := by
  obtain ⟨D, ho, hf, hs⟩ := h
  obtain ⟨w', hrun, ho', hg⟩ := ho.drop (int_keyed hk) ht (key_of hk hi) ty
  refine ⟨w', hrun, ⟨_, ho', fun j hj => ?_, fun hE j hj hh => ?_⟩, hg.grown⟩
  · unfold upd
    by_cases hji : j = i
    · subst hji
      rw [if_pos rfl, atKey_del_same]
    · rw [if_neg hji, atKey_del_other (lit_ne hji), hf j hj]
  · unfold upd
    by_cases hji : j = i
    · subst hji
      rw [has_del_same] at hh; cases hh
    · rw [if_neg hji]
      rw [has_del_other (lit_ne hji)] at hh
      exact hs hE j hj hh
end

section
variable {α : Type} {R : Value → Option (DataW Nat × List MemPlace)} {P : Program} {k e : TypeId} {ops : Array Oper} {rest : List Oper} {o : Oper} {a : Act} {Q : Exit → Act → World → Prop}
/-- 'm[i]' at the operation. -/
theorem wp_look (E : Elem α R) (w : World) (hg : o.guard = none) (m x : Operand) (t : TypeId) (hop : o.op = Op.lookup t m x false) (hk : P.underlying k = some (.int .i64)) (ht : P.underlying t = some (.map k e)) (hz : (zeroValue e).run P w = .ok (E.enc E.zero) w)
    (b n : Nat) (f : Int → α) (i : Int) (hm : a.eval m = .map (some b)) (hx : a.eval x = .int .i64 i) (hi : (Lit.int .i64 i).wf = true) (h : MapOf E P k w b n f)
    (hK : wpList P ops Q rest (a.put o.dst (E.enc (f i))) w) : wpList P ops Q (o :: rest) a w := by
  refine wpList_plain hg fun K' hK' => ?_
  unfold Oper.wp
  simp [execOp, hop, hm, hx, h.look hk ht hz hi, Result.andThen]
  exact hK' _ _ hK
/-- 'm[i] = v' at the operation. -/
theorem wp_store (E : Elem α R) (w : World) (hg : o.guard = none) (m x y : Operand) (t : TypeId) (hop : o.op = Op.mapUpdate t m x y) (hk : P.underlying k = some (.int .i64)) (ht : P.underlying t = some (.map k e))
    (b n : Nat) (f : Int → α) (i : Int) (v : α) (hm : a.eval m = .map (some b)) (hx : a.eval x = .int .i64 i) (hv : a.eval y = E.enc v) (hi : (Lit.int .i64 i).wf = true) (hn : n < maxLen) (ha : E.solid = true → v ≠ E.zero) (h : MapOf E P k w b n f)
    (hK : ∀ w', MapOf E P k w' b (n + 1) (upd f i v) → w.grownBy w' (some b) → wpList P ops Q rest (a.put o.dst undef) w') : wpList P ops Q (o :: rest) a w := by
  refine wpList_plain hg fun K' hK' => ?_
  obtain ⟨w', hrun, r1, r2⟩ := h.store hk ht hn hi v ha
  unfold Oper.wp
  simp [execOp, hop, hm, hx, hv, hrun, Result.andThen]
  exact hK' _ _ (hK w' r1 r2)
/-- 'delete(m, i)' at the operation. -/
theorem wp_strike (E : Elem α R) (w : World) (hg : o.guard = none) (m x : Operand) (t : TypeId) (hop : o.op = Op.call { callee := Callee.builtin Builtin.delete, args := #[m, x], argTypes := #[t, k] }) (hk : P.underlying k = some (.int .i64)) (ht : P.underlying t = some (.map k e))
    (b n : Nat) (f : Int → α) (i : Int) (hm : a.eval m = .map (some b)) (hx : a.eval x = .int .i64 i) (hi : (Lit.int .i64 i).wf = true) (h : MapOf E P k w b n f)
    (hK : ∀ w', MapOf E P k w' b n (upd f i E.zero) → w.grownBy w' (some b) → wpList P ops Q rest (a.put o.dst (.tuple #[])) w') : wpList P ops Q (o :: rest) a w := by
  refine wpList_plain hg fun K' hK' => ?_
  obtain ⟨w', hrun, r1, r2⟩ := h.strike hk ht hi o.type
  unfold Oper.wp
  simp [execOp, hop, resolve, invoke, builtin, hm, hx, hrun, Result.andThen]
  exact hK' _ _ (hK w' r1 r2)
end

/-! ### the two kinds of elements -/
/-- Small numbers. -/
def numR (P : Program) (e : TypeId) : Value → Option (DataW Nat × List MemPlace) := plainElem P e
def num {P : Program} {e : TypeId} (he : P.underlying e = some (.int .i64)) : Elem (Fin 4) (numR P e) where
  enc := fun a => .int .i64 a.val
  dat := fun a => .lit (.int .i64 a.val)
  zero := 0
  solid := true
  reads := fun a => plainElem_int he (by have := a.isLt; simp [Lit.wf, IntKind.min, IntKind.max, IntKind.signed, IntKind.bits]; omega)
  inv := fun v a ps h => by
    obtain ⟨x, rfl, hx, _⟩ := plainElem_int_inv he h
    simp only [Prod.mk.injEq, DataW.lit.injEq, Lit.int.injEq] at hx
    rw [hx.1.2]
/-- Two bools. -/
def pairR : Value → Option (DataW Nat × List MemPlace)
  | .agg ⟨[.bool g, .bool e]⟩ => some (.agg [.lit (.bool g), .lit (.bool e)], [])
  | _ => none
def pair : Elem (Bool × Bool) pairR where
  enc := fun a => .agg #[.bool a.1, .bool a.2]
  dat := fun a => .agg [.lit (.bool a.1), .lit (.bool a.2)]
  zero := (false, false)
  solid := false
  reads := fun _ => rfl
  inv := fun v a ps h => by
    unfold pairR at h
    split at h
    · simp only [Option.some.injEq, Prod.mk.injEq, DataW.agg.injEq, List.cons.injEq, DataW.lit.injEq, Lit.bool.injEq] at h
      obtain ⟨⟨h1, h2, _⟩, _⟩ := h
      rw [h1, h2]
    · cases h
end Go.Proofs.Ytghjhcobmbobcaa.Mp
