/- early, kind: the law's own helpers. -/
import Derived.Test.YtdmhlnjlbcapoaaFrJ
namespace Go.Proofs.Ytdmhlnjlbcapoaa
open Go.RowKit
/-- a step: its kind, its frame's kind and bytes -/
abbrev Stp := Int × Int × ByteArray
def encS (l : List Stp) : List Value := l.flatMap fun x => [.int .i64 x.1, .int .i64 x.2.1, .string x.2.2]
theorem encS_append (a b : List Stp) : encS (a ++ b) = encS a ++ encS b := by simp [encS]
theorem encS_length (a : List Stp) : (encS a).length = a.length * 3 := by
  induction a with
  | nil => rfl
  | cons x r ih => simp only [encS, List.flatMap_cons, List.length_append, List.length_cons, List.length_nil] at ih ⊢; omega
theorem encS_at : ∀ (l : List Stp) (i : Nat) (x : Stp), l[i]? = some x → (encS l)[i * 3]? = some (.int .i64 x.1) ∧ (encS l)[i * 3 + 1]? = some (.int .i64 x.2.1) ∧ (encS l)[i * 3 + 2]? = some (.string x.2.2)
  | [], i, x, h => by simp at h
  | y :: r, 0, x, h => by simp at h; subst h; exact ⟨rfl, rfl, rfl⟩
  | y :: r, i + 1, x, h => by
    have ih := encS_at r i x (by simpa using h)
    have e : encS (y :: r) = [.int .i64 y.1, .int .i64 y.2.1, .string y.2.2] ++ encS r := rfl
    rw [e]
    refine ⟨?_, ?_, ?_⟩
    · rw [List.getElem?_append_right (by simp; omega)]; rw [← ih.1]; congr 1; simp; omega
    · rw [List.getElem?_append_right (by simp; omega)]; rw [← ih.2.1]; congr 1; simp; omega
    · rw [List.getElem?_append_right (by simp; omega)]; rw [← ih.2.2]; congr 1; simp; omega
theorem flat_Step : Flat Try.prog 45 [.int, .int, .str] :=
  Flat.struct Try.underlying45 (by kernel_rfl) fun i k hk => by
    match i, hk with
    | 0, hk => exact ⟨0, _, [.int], rfl, Nat.le_refl _, by decide, Flat.int Try.underlying3, by kernel_rfl, hk⟩
    | 1, hk => exact ⟨1, _, [.int, .str], rfl, by decide, by decide, flat_Frame, by kernel_rfl, hk⟩
    | 2, hk => exact ⟨1, _, [.int, .str], rfl, by decide, by decide, flat_Frame, by kernel_rfl, hk⟩
    | i + 3, hk => simp at hk
theorem step_info : (Try.prog.info? 45).map (fun i => (i.zero, i.size, i.bytes)) = some (some (.agg #[.int .i64 0, .int .i64 0, .string ByteArray.empty]), 3, 32) := by kernel_rfl
def EarlyPost (w : World) (e : Ending) (w' : World) : Prop := ∃ v l, e = .returned v ∧ l.length ≤ 100 ∧ Sl w' 45 3 v l.length (encS l) ∧ (∀ g, v.ownBlock = some g → w.heap.size ≤ g) ∧ B w w'
theorem news3 {w : World} {g : Nat} {a b c : Value} (h : w.cell? ⟨g, 0, none⟩ = some a) (h' : w.cell? ⟨g, 1, none⟩ = some b) (h'' : w.cell? ⟨g, 2, none⟩ = some c) : ∀ (j : Nat) (u : Value), [a, b, c][j]? = some u → w.cell? ((⟨g, 0, none⟩ : Addr).add j) = some u
  | 0, u, hu => by simp at hu; subst hu; simpa [Addr.add] using h
  | 1, u, hu => by simp at hu; subst hu; simpa [Addr.add] using h'
  | 2, u, hu => by simp at hu; subst hu; simpa [Addr.add] using h''
  | j + 3, u, hu => by simp at hu
set_option maxHeartbeats 1000000 in
theorem early_any (w : World) (A : Option Addr) (len cap : Nat) (_ : cap ≤ maxLen) (y : len * 32 ≤ 140737488351232) (xs : List Value)
    (rd : Rds w A xs) (lf : ∀ (i j : Nat) (k : FK), i < len → [FK.int, FK.int, FK.str][j]? = some k → ∃ u, xs[i * 3 + j]? = some u ∧ leafOk k u) :
    Calls Try.prog 21 #[.slice A len cap] w (EarlyPost w) := by
  have RD := Lib.hid rd
  have LFS := Lib.hid lf
  clear rd lf
  obtain ⟨i0, hi, hz0, hz1, hz2⟩ := info_parts step_info
  go_enter Try.func21, Try.ntmps21
  go_wp2_with fail
  go_loopw [3, 4] (fun s i wr => ∃ (k : Nat) (l : List Stp) (A' : Option Addr) (c' : Nat), k ≤ len ∧ k ≤ 100 ∧ s = .slice A' k c' ∧ i = .int .i64 k ∧ l.length = k ∧ Sl wr 45 3 (.slice A' k c') k (encS l) ∧ (∀ g, Value.ownBlock (.slice A' k c') = some g → w.heap.size ≤ g) ∧ B w wr) (fun _ i _ => len - (intOf i).toNat)
  case atStart => exact ⟨0, [], none, 0, Nat.zero_le _, Nat.zero_le _, rfl, rfl, rfl, Sl.nil _ _ _, fun g hg => by simp [Value.ownBlock] at hg, B_refl _⟩
  case round =>
    obtain ⟨k, l, A', c', hk, hk1, rfl, rfl, hl, hS, hO, hB⟩ := hrel
    have HS := Lib.hid hS
    have HO := Lib.hid hO
    have HB := Lib.hid hB
    have HLl := Lib.hid hl
    clear hS hO hB hl
    by_cases hlt : k < len ∧ k < 100
    · obtain ⟨hlt, h100⟩ := hlt
      have h100' : (k : Int) < 100 := by omega
      obtain ⟨_, hu0, n0, rfl, _⟩ := LFS.out k 0 .int hlt rfl
      obtain ⟨_, hu1, n1, rfl, _⟩ := LFS.out k 1 .int hlt rfl
      obtain ⟨_, hu2, d, rfl, hd⟩ := LFS.out k 2 .str hlt rfl
      obtain ⟨g, o, rfl, hg, hc⟩ := RD.out.at_ hu0
      have c0 := (HB.out.cell (p := ⟨g, o + k * 3, none⟩) hg).trans (hc (k * 3) _ (by simpa using hu0))
      have c1 := (HB.out.cell (p := ⟨g, o + (k * 3 + 1), none⟩) hg).trans (hc (k * 3 + 1) _ (by simpa using hu1))
      have c2 := (HB.out.cell (p := ⟨g, o + (k * 3 + 2), none⟩) hg).trans (hc (k * 3 + 2) _ (by simpa using hu2))
      rw [← Nat.add_assoc] at c1 c2
      have hgr : g < wr.heap.size := Nat.lt_of_lt_of_le hg HB.out.size
      clear hc hu0 hu1 hu2
      unfold maxLen at hd
      rcases (show (d.size : Int) ≤ 10 ∨ 10 < (d.size : Int) by omega) with hx | hx
      · go_wp2_with (at_builtin; refine wpList_append_sl _ rfl (.tmp 31) (.tmp 33) 39 rfl 45 i0 _ 3 32 Try.underlying39 hi hz0 hz1 hz2 rfl (by decide) (.slice A' k c') k (encS l) rfl ?hs ⟨_, 0, none⟩ 1 1 [.int .i64 n0, .int .i64 n1, .string d] rfl rfl ?hn ?h1 ?hm ?hb ?_)
        case hs => repeat (first | exact HS.out | refine Sl.alloc ?_ _)
        case hn => exact news3 (by simp) (by simp) (by simp)
        case h1 => simp [Value.oneCell']
        case hm => unfold maxLen; omega
        case hb => omega
        intro A2 c2 w2 hs2 ho2 hl2
        have HS2 := Lib.hid hs2
        have HO2 := Lib.hid ho2
        have HL2 := Lib.hid hl2
        clear hs2 ho2 hl2
        go_wp2
        go_roundw
        case rel =>
          refine ⟨k + 1, l ++ [(n0, n1, d)], A2, c2, by omega, by omega, rfl, by go_num, by simp [HLl.out], by rw [encS_append]; exact HS2.out, ?_, ?_⟩
          · exact own_later HL2.out HO.out (B_size (by (repeat (first | assumption | exact B_refl _ | refine B_drewN ?_ _ | refine B_drew ?_ | refine B_alloc ?_ _ | refine B_setCell ?_ (by first | (simp; done) | (simp; omega)) _ | refine B_trans ?_ (by assumption)))) : w.heap.size ≤ _)
          · exact B_only (by (repeat (first | assumption | exact B_refl _ | refine B_drewN ?_ _ | refine B_drew ?_ | refine B_alloc ?_ _ | refine B_setCell ?_ (by first | (simp; done) | (simp; omega)) _ | refine B_trans ?_ (by assumption)))) HO2.out HO.out
        case measure => simp [intOf]; omega
      · go_wp2_with (at_builtin; refine wpList_append_sl _ rfl (.tmp 31) (.tmp 33) 39 rfl 45 i0 _ 3 32 Try.underlying39 hi hz0 hz1 hz2 rfl (by decide) (.slice A' k c') k (encS l) rfl ?hs ⟨_, 0, none⟩ 1 1 [.int .i64 n0, .int .i64 n1, .string (d.extract 0 10)] rfl rfl ?hn ?h1 ?hm ?hb ?_)
        case hs => repeat (first | exact HS.out | refine Sl.alloc ?_ _)
        case hn => exact news3 (by simp) (by simp) (by simp)
        case h1 => simp [Value.oneCell']
        case hm => unfold maxLen; omega
        case hb => omega
        intro A2 c2 w2 hs2 ho2 hl2
        have HS2 := Lib.hid hs2
        have HO2 := Lib.hid ho2
        have HL2 := Lib.hid hl2
        clear hs2 ho2 hl2
        go_wp2
        go_roundw
        case rel =>
          refine ⟨k + 1, l ++ [(n0, n1, (d.extract 0 10))], A2, c2, by omega, by omega, rfl, by go_num, by simp [HLl.out], by rw [encS_append]; exact HS2.out, ?_, ?_⟩
          · exact own_later HL2.out HO.out (B_size (by (repeat (first | assumption | exact B_refl _ | refine B_drewN ?_ _ | refine B_drew ?_ | refine B_alloc ?_ _ | refine B_setCell ?_ (by first | (simp; done) | (simp; omega)) _ | refine B_trans ?_ (by assumption)))) : w.heap.size ≤ _)
          · exact B_only (by (repeat (first | assumption | exact B_refl _ | refine B_drewN ?_ _ | refine B_drew ?_ | refine B_alloc ?_ _ | refine B_setCell ?_ (by first | (simp; done) | (simp; omega)) _ | refine B_trans ?_ (by assumption)))) HO2.out HO.out
        case measure => simp [intOf]; omega
    · rcases (show ¬ k < len ∨ (k < len ∧ ¬ (k : Int) < 100) by omega) with hn | ⟨hn, hn'⟩
      all_goals
        go_wp2
        go_ret
        exact ⟨_, l, rfl, by rw [HLl.out]; exact hk1, by rw [HLl.out]; exact HS.out, HO.out, HB.out⟩
end Go.Proofs.Ytdmhlnjlbcapoaa
