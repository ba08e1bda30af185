/- append where there is no room: a new row, nothing old changed. -/
import Derived.Test.YthalpaggcdpcbaaDoorMem
namespace Go.Proofs.YthalpaggcdpcbaaDoor
open Go.RowKit
section
variable {P : Program} (w : World)
theorem run_append_new (t ty e : TypeId) (i : TypeInfo) (z : Value) (size bytes : Nat) (ht : P.underlying t = some (.slice e)) (hi : P.info? e = some i) (hz : i.zero = some z)
    (hsize : i.size = size) (hby : i.bytes = bytes) (hzs : z.cells.size = size) (hsz : 0 < size)
    (g0 o0 n cap : Nat) (xs : List Value) (hs : Sl w e size (.slice (some ⟨g0, o0, none⟩) n cap) n xs)
    (a : Addr) (m c : Nat) (news : List Value) (hl : news.length = m * size) (hnews : ∀ j u, news[j]? = some u → w.cell? (a.add j) = some u) (h1 : ∀ u ∈ news, u.oneCell' = true)
    (hroom : cap < n + m) (h63 : n + m ≤ maxLen) (hbytes : (n + m) * bytes ≤ 140737488355328) :
    ∃ A' c' w', (Builtin.append_ #[t, t] ty #[.slice (some ⟨g0, o0, none⟩) n cap, .slice (some a) m c]).run P w = .ok (.slice A' (n + m) c') w' ∧ Sl w' e size (.slice A' (n + m) c') (n + m) (xs ++ news) ∧ B w w' ∧ ∀ g, Value.ownBlock (.slice A' (n + m) c') = some g → w.heap.size ≤ g := by
  subst hsize
  rcases hs.2 with ⟨he, _⟩ | ⟨g, o, cap', cur, he, hg, hnc, hcm, hcs, htake⟩
  · cases he
  · cases he
    have holds : ∀ j u, xs[j]? = some u → w.cell? ((⟨g0, o0, none⟩ : Addr).add j) = some u := fun j u hj => by
      rw [addr_add, cell_of_row w g0 _ cur e (0, 0) hg]
      rw [← htake, List.getElem?_take] at hj
      split at hj
      · rw [List.getElem?_drop] at hj
        rw [← Array.getElem?_toList]
        exact hj
      · cases hj
    obtain ⟨v', w', hr, h2, h3⟩ := run_append_arg_grows (P := P) w t ty e i z i.size bytes ht hi hz rfl hby hzs hsz ⟨g0, o0, none⟩ n cap xs hs.1 holds a m c news hl hnews (by omega) h63 hbytes
    have hsl := Sl.of_own h2
    obtain ⟨A', c', rfl, _⟩ := hsl.slice
    exact ⟨A', c', w', hr, hsl, (Only.of_grown (F := fun _ => False) h3 (fun i _ h => by cases h)).to_B (fun _ _ h => h), fun g hg => (h2.lt g hg).1⟩
theorem wp_append_new {o : Oper} {a : Act} {K : Act → World → Prop} {Q : Exit → Act → World → Prop} (s x : Operand) (t : TypeId)
    (ho : o.op = .call { callee := .builtin .append, args := #[s, x], argTypes := #[t, t] })
    (e : TypeId) (i : TypeInfo) (z : Value) (size bytes : Nat) (ht : P.underlying t = some (.slice e)) (hi : P.info? e = some i) (hz : i.zero = some z)
    (hsize : i.size = size) (hby : i.bytes = bytes) (hzs : z.cells.size = size) (hsz : 0 < size)
    (g0 o0 n cap : Nat) (xs : List Value) (hs : a.eval s = .slice (some ⟨g0, o0, none⟩) n cap) (hsl : Sl w e size (.slice (some ⟨g0, o0, none⟩) n cap) n xs)
    (ad : Addr) (m c : Nat) (news : List Value) (hx : a.eval x = .slice (some ad) m c) (hl : news.length = m * size) (hnews : ∀ j u, news[j]? = some u → w.cell? (ad.add j) = some u) (h1 : ∀ u ∈ news, u.oneCell' = true)
    (hroom : cap < n + m) (h63 : n + m ≤ maxLen) (hbytes : (n + m) * bytes ≤ 140737488355328)
    (h : ∀ A' c' w', Sl w' e size (.slice A' (n + m) c') (n + m) (xs ++ news) → B w w' → (∀ g, Value.ownBlock (.slice A' (n + m) c') = some g → w.heap.size ≤ g) → K (a.put o.dst (.slice A' (n + m) c')) w') : o.wp P a w K Q := by
  obtain ⟨A', c', w', hr, h2, h3, h4⟩ := run_append_new (P := P) w t o.type e i z size bytes ht hi hz hsize hby hzs hsz g0 o0 n cap xs hsl ad m c news hl hnews h1 hroom h63 hbytes
  unfold Oper.wp execOp
  simp only [ho, resolve, invoke, builtin, Sem.run_bind, Sem.run_pure, Result.andThen_ok, List.map_toArray, List.map_cons, List.map_nil, hs, hx, hr]
  exact h A' c' w' h2 h3 h4
theorem step_append_new {ops : Array Oper} {o : Oper} {a : Act} {K : Act → World → Prop} {Q : Exit → Act → World → Prop} {E : Prop} (hgd : o.guard = none) (s x : Operand) (t : TypeId)
    (ho : o.op = .call { callee := .builtin .append, args := #[s, x], argTypes := #[t, t] })
    (e : TypeId) (i : TypeInfo) (z : Value) (size bytes : Nat) (ht : P.underlying t = some (.slice e)) (hi : P.info? e = some i) (hz : i.zero = some z)
    (hsize : i.size = size) (hby : i.bytes = bytes) (hzs : z.cells.size = size) (hsz : 0 < size)
    (g0 o0 n cap : Nat) (xs : List Value) (hs : a.eval s = .slice (some ⟨g0, o0, none⟩) n cap) (hsl : Sl w e size (.slice (some ⟨g0, o0, none⟩) n cap) n xs)
    (ad : Addr) (m c : Nat) (news : List Value) (hx : a.eval x = .slice (some ad) m c) (hl : news.length = m * size) (hnews : ∀ j u, news[j]? = some u → w.cell? (ad.add j) = some u) (h1 : ∀ u ∈ news, u.oneCell' = true)
    (hroom : cap < n + m) (h63 : n + m ≤ maxLen) (hbytes : (n + m) * bytes ≤ 140737488355328)
    (h : ∀ A' c' w', Sl w' e size (.slice A' (n + m) c') (n + m) (xs ++ news) → B w w' → (∀ g, Value.ownBlock (.slice A' (n + m) c') = some g → w.heap.size ≤ g) → K (a.put o.dst (.slice A' (n + m) c')) w') :
    if Region.wanted o (yielded ops a.tmps) = true then Oper.wp P o a w K Q else E := by
  have hw : Region.wanted o (yielded ops a.tmps) = true := by simp [Region.wanted, hgd]
  rw [if_pos hw]
  exact wp_append_new w s x t ho e i z size bytes ht hi hz hsize hby hzs hsz g0 o0 n cap xs hs hsl ad m c news hx hl hnews h1 hroom h63 hbytes h
end
end Go.Proofs.YthalpaggcdpcbaaDoor
