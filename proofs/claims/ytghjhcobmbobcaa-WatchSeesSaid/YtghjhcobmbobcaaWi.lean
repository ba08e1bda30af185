/- hostlerlaw22's few: at most 60 outputs, few bytes each. -/
import Derived.Test.YtghjhcobmbobcaaWd
import Derived.Test.YtghjhcobmbobcaaMem
namespace Go.Proofs.Ytghjhcobmbobcaa.Wt
open Go.RowKit Go.Proofs.Ytghjhcobmbobcaa.Mp Go.Proofs.Ytghjhcobmbobcaa

def encO (l : List OutV) : List Value := l.flatMap fun o => [.int .i64 o.k, .int .i64 o.id, .int .i64 o.fk, .string o.data, .string o.text]
theorem encO_append (a b : List OutV) : encO (a ++ b) = encO a ++ encO b := by simp [encO]
theorem encO_length (a : List OutV) : (encO a).length = a.length * 5 := by
  induction a with
  | nil => rfl
  | cons x r ih => simp only [encO, List.flatMap_cons, List.length_append, List.length_cons, List.length_nil] at ih ⊢; omega
theorem encO_at : ∀ (l : List OutV) (i : Nat) (x : OutV), l[i]? = some x → ∀ j v, [.int .i64 x.k, .int .i64 x.id, .int .i64 x.fk, .string x.data, Value.string x.text][j]? = some v → (encO l)[i * 5 + j]? = some v
  | [], i, x, h, j, v, hv => by simp at h
  | y :: r, 0, x, h, j, v, hv => by
    simp at h; subst h
    have e : encO (y :: r) = [.int .i64 y.k, .int .i64 y.id, .int .i64 y.fk, .string y.data, .string y.text] ++ encO r := rfl
    have hj := (List.getElem?_eq_some_iff.1 hv).1
    rw [e, Nat.zero_mul, Nat.zero_add, List.getElem?_append_left hj]
    exact hv
  | y :: r, i + 1, x, h, j, v, hv => by
    have ih := encO_at r i x (by simpa using h) j v hv
    have e : encO (y :: r) = [.int .i64 y.k, .int .i64 y.id, .int .i64 y.fk, .string y.data, .string y.text] ++ encO r := rfl
    rw [e, List.getElem?_append_right (by simp; omega), ← ih]
    congr 1
    simp
    omega
theorem OutsAt.of_Sl {w : World} {A : Option Addr} {c : Nat} {l : List OutV} (h : Sl w 36 5 (.slice A l.length c) l.length (encO l)) : OutsAt w A l := fun k o ho => by
  have hk := (List.getElem?_eq_some_iff.1 ho).1
  obtain ⟨g, of, rfl, _, hc⟩ := h.cells (by omega)
  have hx := encO_at l k o ho
  refine ⟨_, rfl, ?_⟩
  rw [addr_add]
  exact ⟨hc _ _ (hx 0 _ rfl), hc _ _ (hx 1 _ rfl), hc _ _ (hx 2 _ rfl), hc _ _ (hx 3 _ rfl), hc _ _ (hx 4 _ rfl)⟩
theorem out_info : (Try.prog.info? 36).map (fun i => (i.zero, i.size, i.bytes)) = some (some (.agg #[.int .i64 0, .int .i64 0, .int .i64 0, .string ByteArray.empty, .string ByteArray.empty]), 5, 56) := by kernel_rfl
theorem news5 {w : World} {g : Nat} {a b c d f : Value} (h0 : w.cell? ⟨g, 0, none⟩ = some a) (h1 : w.cell? ⟨g, 1, none⟩ = some b) (h2 : w.cell? ⟨g, 2, none⟩ = some c) (h3 : w.cell? ⟨g, 3, none⟩ = some d) (h4 : w.cell? ⟨g, 4, none⟩ = some f) : ∀ (j : Nat) (u : Value), [a, b, c, d, f][j]? = some u → w.cell? ((⟨g, 0, none⟩ : Addr).add j) = some u
  | 0, u, hu => by simp at hu; subst hu; rw [addr_add]; exact h0
  | 1, u, hu => by simp at hu; subst hu; rw [addr_add]; exact h1
  | 2, u, hu => by simp at hu; subst hu; rw [addr_add]; exact h2
  | 3, u, hu => by simp at hu; subst hu; rw [addr_add]; exact h3
  | 4, u, hu => by simp at hu; subst hu; rw [addr_add]; exact h4
  | j + 5, u, hu => by simp at hu
def FewPost (w : World) (e : Ending) (w' : World) : Prop := ∃ A c l, e = .returned (.slice A l.length c) ∧ l.length ≤ c ∧ l.length ≤ 60 ∧ (∀ o ∈ l, o.text.size ≤ 1000) ∧ OutsAt w' A l ∧ Below w.heap.size w w'
set_option maxHeartbeats 2000000 in
set_option maxRecDepth 100000 in
theorem few_any (w : World) (A : Option Addr) (zs : List OutV) (cap : Nat) (hz : ∀ o ∈ zs, o.data.size ≤ maxLen ∧ o.text.size ≤ maxLen) (_ : zs.length * 56 ≤ 140737488351232) (hl : OutsAt w A zs) :
    Calls Try.prog 9 #[.slice A zs.length cap] w (FewPost w) := by
  have HL := Lib.hid hl
  have HZ := Lib.hid hz
  clear hl hz
  obtain ⟨i0, hi, hz0, hz1, hz2⟩ := info_parts out_info
  go_enter Try.func9, Try.ntmps9
  go_wp2_with fail
  go_loopw [3, 4] (fun s i wr => ∃ (k : Nat) (l : List OutV) (A' : Option Addr) (c' : Nat), k ≤ zs.length ∧ k ≤ 60 ∧ s = .slice A' k c' ∧ i = .int .i64 k ∧ l.length = k ∧ Sl wr 36 5 (.slice A' k c') k (encO l) ∧ (∀ g, Value.ownBlock (.slice A' k c') = some g → w.heap.size ≤ g) ∧ (∀ o ∈ l, o.text.size ≤ 1000) ∧ B w wr) (fun _ i _ => zs.length - (intOf i).toNat)
  case atStart => exact ⟨0, [], none, 0, Nat.zero_le _, Nat.zero_le _, rfl, rfl, rfl, Sl.nil _ _ _, fun g hg => by simp [Value.ownBlock] at hg, fun o ho => (by cases ho), B_refl _⟩
  case round =>
    obtain ⟨k, l, A', c', hk, hk1, rfl, rfl, hl, hS, hO, hT, hB⟩ := hrel
    have HS := Lib.hid hS
    have HO := Lib.hid hO
    have HB := Lib.hid hB
    have HLl := Lib.hid hl
    have HT := Lib.hid hT
    clear hS hO hB hl hT
    by_cases hlt : k < zs.length ∧ k < 60
    · obtain ⟨hlt, h60⟩ := hlt
      have h60' : (k : Int) < 60 := by omega
      obtain ⟨x, hx⟩ : ∃ x, zs[k]? = some x := ⟨_, List.getElem?_eq_getElem hlt⟩
      obtain ⟨hd, ht⟩ := HZ.out x (List.mem_of_getElem? hx)
      obtain ⟨xk, xi, xf, d, t⟩ := x
      obtain ⟨ad, rfl, c0, c1, c2, c3, c4⟩ := HL.out k _ hx
      replace c0 := (HB.out.cell (World.block_lt_of_cell? w _ c0)).trans c0
      replace c1 := (HB.out.cell (World.block_lt_of_cell? w _ c1)).trans c1
      replace c2 := (HB.out.cell (World.block_lt_of_cell? w _ c2)).trans c2
      replace c3 := (HB.out.cell (World.block_lt_of_cell? w _ c3)).trans c3
      replace c4 := (HB.out.cell (World.block_lt_of_cell? w _ c4)).trans c4
      dsimp only at c0 c1 c2 c3 c4 hd ht
      clear hx
      unfold maxLen at hd ht
      go_wp2_with (at_builtin; refine wpList_append_sl _ rfl (.tmp 39) (.tmp 41) 22 rfl 36 i0 _ 5 56 Try.underlying22 hi hz0 hz1 hz2 rfl (by decide) (.slice A' k c') k (encO l) rfl ?hs ⟨_, 0, none⟩ 1 1 [.int .i64 xk, .int .i64 xi, .int .i64 xf, .string (d.extract 0 (min (d.size : Int) 30).toNat), .string (t.extract 0 (min (t.size : Int) 30).toNat)] rfl rfl ?hn ?h1 ?hm ?hb ?_)
      case hs => repeat (first | exact HS.out | refine Sl.alloc ?_ _)
      case hn => exact news5 (by simp) (by simp) (by simp) (by simp) (by simp)
      case h1 => simp [Value.oneCell']
      case hm => unfold maxLen; omega
      case hb => omega
      intro A2 c2 w2 hs2 ho2 hl2
      have HS2 := Lib.hid hs2
      have HO2 := Lib.hid ho2
      have HL2 := Lib.hid hl2
      clear hs2 ho2 hl2
      go_wp2_with fail
      go_roundw
      case rel =>
        refine ⟨k + 1, l ++ [⟨xk, xi, xf, (d.extract 0 (min (d.size : Int) 30).toNat), (t.extract 0 (min (t.size : Int) 30).toNat)⟩], A2, c2, by omega, by omega, rfl, by go_num, by simp [HLl.out], by rw [encO_append]; exact HS2.out, ?_, ?_, ?_⟩
        · exact own_later HL2.out HO.out (B_size (by (repeat (first | assumption | exact B_refl _ | refine B_drewN ?_ _ | refine B_drew ?_ | refine B_alloc ?_ _ | refine B_setCell ?_ (by first | (simp; done) | (simp; omega)) _ | refine B_trans ?_ (by assumption)))) : w.heap.size ≤ _)
        · intro o ho
          rcases List.mem_append.1 ho with ho | ho
          · exact HT.out o ho
          · cases List.mem_singleton.1 ho
            show (t.extract 0 (min (t.size : Int) 30).toNat).size ≤ 1000
            rw [ByteArray.size_extract]
            omega
        · exact B_only (by (repeat (first | assumption | exact B_refl _ | refine B_drewN ?_ _ | refine B_drew ?_ | refine B_alloc ?_ _ | refine B_setCell ?_ (by first | (simp; done) | (simp; omega)) _ | refine B_trans ?_ (by assumption)))) HO2.out HO.out
      case measure => simp [intOf]; omega
    · rcases (show ¬ k < zs.length ∨ (k < zs.length ∧ ¬ (k : Int) < 60) by omega) with hn | ⟨hn, hn'⟩
      all_goals
        go_wp2_with fail
        go_ret
        refine ⟨A', c', l, by rw [HLl.out]; rfl, ?_, by rw [HLl.out]; exact hk1, HT.out, ?_, HB.out⟩
        · obtain ⟨_, _, e, h1, _⟩ := HS.out.slice
          injection e with _ _ e
          rw [HLl.out, e]; exact h1
        · exact OutsAt.of_Sl (c := c') (by rw [HLl.out]; exact HS.out)
end Go.Proofs.Ytghjhcobmbobcaa.Wt
