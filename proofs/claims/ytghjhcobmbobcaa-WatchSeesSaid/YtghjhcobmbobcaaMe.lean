/- 'm[i] = v' at a map of the call's own in its two halves (a drawn assignment): the entry, then the store in it. -/
import Derived.Test.YtghjhcobmbobcaaMap
import Derived.WideKeyEntry
namespace Go.Proofs.Ytghjhcobmbobcaa.Mp
open Go Go.Maps Go.ChangeShapes Go.WideShapes Go.MapKept Go.ChangeMaps Go.WideElems

section
variable {H : Type} {P : Program} {w : World} {t k e : TypeId} {R : Value → Option (DataW H × List MemPlace)} {b : Nat} {es : Array MapEntry} {clock : Nat}
/-- Of whatever keys. -/
theorem entry_store_own (K : Keyed P k) (ht : P.underlying t = some (.map k e)) {z : Value} (hz : ∀ u : World, (zeroValue e).run P u = .ok z u) (hb : w.heap[b]? = some (.map es clock)) (F : Fit P k R es clock)
    {key : Value} {kl : Lit} (hkey : keyOf P k key = some kl) :
    ∃ (v0 : Value) (st : Nat) (es1 : Array MapEntry) (clock1 : Nat), (Instr.mapEntry t (.map (some b)) key).run P w = .ok (.tuple #[v0, goInt st]) (setBlock w b (.map es1 clock1)) ∧
      ∀ (w2 : World) (val : Value), w2.heap[b]? = some (.map es1 clock1) → ∃ es' clock', (Instr.entryStore t (.map (some b)) (goInt st) val).run P w2 = .ok () (setBlock w2 b (.map es' clock')) ∧
        (Instr.mapUpdate t (.map (some b)) key val).run P w = .ok () (setBlock w b (.map es' clock')) := by
  obtain ⟨s1, s2, _⟩ := F.stamped
  rcases K.find w hkey es.toList F.keys with ⟨h1, h2⟩ | ⟨j, e0, h1, h2, h3⟩
  · refine ⟨z, clock, es.push ⟨key, z, clock⟩, clock + 1, ?_, fun w2 val hw2 => ⟨es.push ⟨key, val, clock⟩, clock + 1, ?_, ?_⟩⟩
    · simp [Instr.mapEntry, run_underlying ht, MapKept.run_getObj_map hb, K.check w false hkey, h1, hz, MapKept.run_setObj_map _ hb, Result.andThen, setBlock]
    · have hidx : (es.push ⟨key, z, clock⟩).findIdx? (fun e => ((e.born : Nat) : Int) == ((clock : Nat) : Int)) = some es.size := by
        rw [findIdx_arr]
        have := findIdx_born (l := (es.push ⟨key, z, clock⟩).toList) (j := es.size) (e0 := ⟨key, z, clock⟩) (by
          simp only [Array.toList_push, List.map_append, List.map_cons, List.map_nil]
          refine List.nodup_append.2 ⟨s2, by simp, fun a ha c hc e1 => ?_⟩
          simp only [List.mem_singleton] at hc
          obtain ⟨x, hx, rfl⟩ := List.mem_map.1 ha
          have := s1 x hx
          omega) (by simp)
        exact this
      have hmod : (es.push ⟨key, z, clock⟩).modify es.size (fun e => { e with val := val }) = es.push ⟨key, val, clock⟩ := by
        apply Array.ext'
        rw [Array.toList_modify, Array.toList_push, Array.toList_push, ← Array.length_toList, modify_last]
      simp [Instr.entryStore, MapKept.run_getObj_map hw2, asInt, asIntOf, goInt, hidx, hmod, MapKept.run_setObj_map _ hw2, Result.andThen, setBlock]
    · simp [Instr.mapUpdate, run_underlying ht, MapKept.run_getObj_map hb, K.check w false hkey, h1, MapKept.run_setObj_map _ hb, Result.andThen, setBlock]
  · have hj : es[j]? = some e0 := by simpa using h2
    have hsame : es.modify j (fun e => { e with key := key }) = es := by
      apply Array.ext'
      rw [Array.toList_modify, modify_eq_set _ _ _ _ h2]
      have : ({ e0 with key := key } : MapEntry) = e0 := by rw [← h3]
      rw [this]
      exact set_self _ _ _ h2
    refine ⟨e0.val, e0.born, es, clock, ?_, fun w2 val hw2 => ⟨es.modify j (fun e' => { e' with key := key, val := val }), clock, ?_, ?_⟩⟩
    · simp [Instr.mapEntry, run_underlying ht, MapKept.run_getObj_map hb, K.check w false hkey, h1, hj, h3, K.stays w hkey, hsame, MapKept.run_setObj_map _ hb, Result.andThen, setBlock]
    · have hidx : es.findIdx? (fun e => ((e.born : Nat) : Int) == ((e0.born : Nat) : Int)) = some j := by
        rw [findIdx_arr]
        exact findIdx_born s2 h2
      have hmod : es.modify j (fun e => { e with val := val }) = es.modify j (fun e' => { e' with key := key, val := val }) := by
        apply Array.ext'
        rw [Array.toList_modify, Array.toList_modify, modify_eq_set _ _ _ _ h2, modify_eq_set _ _ _ _ h2, ← h3]
      simp [Instr.entryStore, MapKept.run_getObj_map hw2, asInt, asIntOf, goInt, hidx, hmod, MapKept.run_setObj_map _ hw2, Result.andThen, setBlock]
    · simp [Instr.mapUpdate, run_underlying ht, MapKept.run_getObj_map hb, K.check w false hkey, h1, hj, h3, K.stays w hkey, MapKept.run_setObj_map _ hb, Result.andThen, setBlock]
end
theorem setBlock_twice (w : World) (b : Nat) (x y : Obj) : setBlock (setBlock w b x) b y = setBlock w b y := by
  simp [setBlock]

section
variable {α : Type} {R : Value → Option (DataW Nat × List MemPlace)} {P : Program} {k e t : TypeId}
theorem MapOf.entry {E : Elem α R} {w : World} {b n : Nat} {f : Int → α} (h : MapOf E P k w b n f) (hk : P.underlying k = some (.int .i64)) (ht : P.underlying t = some (.map k e)) (hz : ∀ u : World, (zeroValue e).run P u = .ok (E.enc E.zero) u) (hn : n < maxLen) {i : Int} (hi : (Lit.int .i64 i).wf = true) :
    ∃ v0 s w1, (Instr.mapEntry t (.map (some b)) (.int .i64 i)).run P w = .ok (.tuple #[v0, s]) w1 ∧
      ∀ a, (E.solid = true → a ≠ E.zero) → ∃ w', (Instr.entryStore t (.map (some b)) s (E.enc a)).run P w1 = .ok () w' ∧ MapOf E P k w' b (n + 1) (upd f i a) ∧ w.grownBy w' (some b) := by
  obtain ⟨es, clock, hb, F, _⟩ := h.choose_spec.1
  obtain ⟨v0, st, es1, clock1, h1, h2⟩ := entry_store_own (int_keyed hk) ht hz hb F (key_of hk hi)
  refine ⟨v0, goInt st, _, h1, fun a ha => ?_⟩
  obtain ⟨es', clock', h3, h4⟩ := h2 (setBlock w b (.map es1 clock1)) (E.enc a) (heap_setBlock_same hb _)
  obtain ⟨w', h5, h6, h7⟩ := h.store hk ht hn hi a ha
  rw [h4] at h5
  injection h5 with h8 h9
  rw [setBlock_twice, h9] at h3
  exact ⟨w', h3, h6, h7⟩
variable {ops : Array Oper} {rest : List Oper} {o : Oper} {a : Act} {Q : Exit → Act → World → Prop}
theorem wp_entry (E : Elem α R) (w : World) (hg : o.guard = none) (m x : Operand) (t : TypeId) (hop : o.op = Op.mapEntry t m x) (hk : P.underlying k = some (.int .i64)) (ht : P.underlying t = some (.map k e)) (hz : ∀ u : World, (zeroValue e).run P u = .ok (E.enc E.zero) u)
    (b n : Nat) (f : Int → α) (i : Int) (hm : a.eval m = .map (some b)) (hx : a.eval x = .int .i64 i) (hi : (Lit.int .i64 i).wf = true) (hn : n < maxLen) (h : MapOf E P k w b n f)
    (hK : ∀ v0 s w1, (∀ v, (E.solid = true → v ≠ E.zero) → ∃ w', (Instr.entryStore t (.map (some b)) s (E.enc v)).run P w1 = .ok () w' ∧ MapOf E P k w' b (n + 1) (upd f i v) ∧ w.grownBy w' (some b)) → wpList P ops Q rest (a.put o.dst (.tuple #[v0, s])) w1) : wpList P ops Q (o :: rest) a w := by
  refine wpList_plain hg fun K' hK' => ?_
  obtain ⟨v0, s, w1, hrun, r⟩ := h.entry hk ht hz hn hi
  unfold Oper.wp
  simp [execOp, hop, hm, hx, hrun, Result.andThen]
  exact hK' _ _ (hK v0 s w1 r)
theorem wp_entryStore (w w' : World) (hg : o.guard = none) (m x y : Operand) (t : TypeId) (hop : o.op = Op.entryStore t m x y) (mv s v : Value) (hm : a.eval m = mv) (hx : a.eval x = s) (hy : a.eval y = v)
    (hrun : (Instr.entryStore t mv s v).run P w = .ok () w') (hK : wpList P ops Q rest (a.put o.dst undef) w') : wpList P ops Q (o :: rest) a w := by
  refine wpList_plain hg fun K' hK' => ?_
  unfold Oper.wp
  simp [execOp, hop, hm, hx, hy, hrun, Result.andThen]
  exact hK' _ _ hK
end
end Go.Proofs.Ytghjhcobmbobcaa.Mp
