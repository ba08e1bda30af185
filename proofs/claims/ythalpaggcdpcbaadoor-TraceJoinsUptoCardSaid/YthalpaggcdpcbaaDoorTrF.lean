/- The reference's Escape. -/
import Derived.Test.YthalpaggcdpcbaaDoorTrE
import Derived.Test.YthalpaggcdpcbaaDoorTCrN
namespace Go.Proofs.YthalpaggcdpcbaaDoor.Tr
open Go.RowKit Go.Proofs.YthalpaggcdpcbaaDoor Go.Proofs.YthalpaggcdpcbaaDoor.Nm Go.Proofs.YthalpaggcdpcbaaDoor.Cf
attribute [local go_sem ↓ high] exec_cat
attribute [local go_sem] strOf_str
theorem exec_cat_k (a : Act) (dst : Option Tmp) (x : Operand) (k : ByteArray) (ty : TypeId) (pos : String) (aft : Array _) (g : Option _) (w : World) (hx : a.eval x = .string (strOf (a.eval x))) (hs : catOk (strOf (a.eval x)) k) :
    (execOp a.eval { dst := dst, op := .binOp .add 9 x (.const (.string k)) 9, type := ty, pos := pos, after := aft, guard := g }).run Tryd.prog w = .ok (.value (.string (strOf (a.eval x) ++ k))) w :=
  exec_cat a.eval dst x (.const (.string k)) ty pos aft g w hx rfl hs
theorem exec_cat_l (a : Act) (dst : Option Tmp) (y : Operand) (k : ByteArray) (ty : TypeId) (pos : String) (aft : Array _) (g : Option _) (w : World) (hy : a.eval y = .string (strOf (a.eval y))) (hs : catOk k (strOf (a.eval y))) :
    (execOp a.eval { dst := dst, op := .binOp .add 9 (.const (.string k)) y 9, type := ty, pos := pos, after := aft, guard := g }).run Tryd.prog w = .ok (.value (.string (k ++ strOf (a.eval y)))) w :=
  exec_cat a.eval dst (.const (.string k)) y ty pos aft g w rfl hy hs
attribute [local go_sem ↓ high] exec_cat_k exec_cat_l
theorem sign_piece : ∀ i : Fin 16, signsS.extract i.val (i.val + 1) = bs [hexD i.val] := by decide +kernel
theorem run_slice_u8 (s : ByteArray) (l h : Int) (h0 : 0 ≤ l) (h1 : l ≤ h) (h2 : h ≤ s.size) (w : World) :
    (Instr.slice 9 (.string s) (some (.int .u8 l)) (some (.int .u8 h)) none).run Tryd.prog w = .ok (.string (s.extract l.toNat h.toNat)) w := by
  have e1 : l ≤ (h.toNat : Int) := by rw [Int.toNat_of_nonneg (by omega)]; exact h1
  have e2 : ∀ W, (Instr.sliceBound (.int .u8 l) h.toNat BoundsCode.sliceB).run Tryd.prog W = .ok l.toNat W := fun W => by
    simp [Instr.sliceBound, asIntOf, h0, e1]
    intro hc
    exfalso
    omega
  simp [Instr.slice, run_underlying Tryd.underlying9, Instr.sliceBounds, run_sliceBound, sliced, *, (by omega : 0 ≤ h)]
theorem sign_slice (d : Nat) (hd : d < 16) (W : World) : (Instr.slice 9 (.string signsS) (some (.int .u8 (d : Int))) (some (.int .u8 ((d : Int) + 1))) none).run Tryd.prog W = .ok (.string (bs [hexD d])) W := by
  have hs : signsS.size = 16 := rfl
  have := sign_piece ⟨d, hd⟩
  simp only at this
  rw [run_slice_u8 signsS (d : Int) ((d : Int) + 1) (by omega) (by omega) (by omega) W, ← this]
  rfl
theorem esc_split (c : UInt8) : (plainB c = true ∧ 32 ≤ (c.toNat : Int) ∧ (c.toNat : Int) ≤ 126 ∧ ((c.toNat : Int) != 92) = true) ∨
    (plainB c = false ∧ ¬ 32 ≤ (c.toNat : Int)) ∨ (plainB c = false ∧ 32 ≤ (c.toNat : Int) ∧ ¬ (c.toNat : Int) ≤ 126) ∨ (plainB c = false ∧ 32 ≤ (c.toNat : Int) ∧ (c.toNat : Int) ≤ 126 ∧ ((c.toNat : Int) != 92) = false) := by
  unfold plainB
  generalize c.toNat = m
  by_cases h1 : 32 ≤ m
  · by_cases h2 : m ≤ 126
    · by_cases h3 : m = 92
      · exact .inr (.inr (.inr ⟨by simp [h3], by omega, by omega, by subst h3; rfl⟩))
      · exact .inl ⟨by simp [h1, h2, h3], by omega, by omega, by rw [bne_iff_ne]; omega⟩
    · exact .inr (.inr (.inl ⟨by simp [h2], by omega, by omega⟩))
  · exact .inr (.inl ⟨by simp [h1], by omega⟩)
set_option maxRecDepth 100000 in
set_option maxHeartbeats 4000000 in
theorem refescape_any (s : ByteArray) (hs : s.size ≤ 100000) (w : World) : Calls Tryd.prog 23 #[.string s] w fun e w' => e = .returned (.string (escV s)) ∧ Below w.heap.size w w' := by
  go_enter Tryd.func23, Tryd.ntmps23
  go_wp2_with fail
  go_loopw [3, 4] (fun ov i wr => ∃ k : Nat, k ≤ s.size ∧ ov = .string (bs (escL (s.data.toList.take k))) ∧ i = .int .i64 k ∧ Below w.heap.size w wr) (fun _ i _ => s.size - (intOf i).toNat)
  case atStart => exact ⟨0, Nat.zero_le _, rfl, rfl, Below.refl _ _⟩
  case round =>
    obtain ⟨k, hk, rfl, rfl, hb⟩ := hrel
    have HB := Lib.hid hb
    clear hb
    by_cases hlt : k < s.size
    · have hk1 : (k : Int) < (s.size : Int) := by omega
      have hk0 : (0 : Int) ≤ (k : Int) := by omega
      have i1 : ∀ W, (Instr.index 9 (.string s) (.int .i64 (k : Int))).run Tryd.prog W = .ok (.int .u8 ((s[k]'hlt).toNat : Int)) W := fun W => by
        rw [run_index_string W 9 s .i64 k Tryd.underlying9, dif_pos ⟨by omega, by omega⟩]
        simp
      have isl : ∀ W, (Instr.slice 9 (.string s) (some (.int .i64 (k : Int))) (some (.int .i64 ((k : Int) + 1))) none).run Tryd.prog W = .ok (.string (bs [s[k]'hlt])) W := fun W => by
        rw [Go.Proofs.YthalpaggcdpcbaaDoor.Cf.run_slice_lh s (k : Int) ((k : Int) + 1) hk0 (by omega) (by omega) W]
        have h' : k < s.data.toList.length := by simpa using hlt
        have e : s.extract ((k : Int)).toNat ((k : Int) + 1).toNat = bs [s[k]'hlt] := by
          rw [show ((k : Int)).toNat = k by omega, show ((k : Int) + 1).toNat = k + 1 by omega]
          exact piece_one s k hlt
        rw [e]
      have hesc : escL (s.data.toList.take (k + 1)) = escL (s.data.toList.take k) ++ escB (s[k]'hlt) := by
        rw [take_one s k hlt, escL_append, escL_cons]
        simp [escL]
      have HESC := Lib.hid hesc
      have hlen : (bs (escL (s.data.toList.take k))).size ≤ 300000 := by
        rw [bs_size]
        have h1 := (escL_len (s.data.toList.take k)).2
        have h2 : (s.data.toList.take k).length ≤ s.size := by rw [List.length_take]; simp; omega
        omega
      have HAP := Lib.hid (fun l => bs_append (escL (s.data.toList.take k)) l)
      generalize bs (escL (s.data.toList.take k)) = out at *
      generalize s[k]'hlt = c at *
      clear hesc
      rcases esc_split c with ⟨hp, a1, a2, a3⟩ | ⟨hp, a1⟩ | ⟨hp, a1, a2⟩ | ⟨hp, a1, a2, a3⟩
      · have HEB := Lib.hid (escB_plain hp)
        have z1 : catOk out (bs [c]) := by unfold catOk; rw [bs_size]; show out.size + 1 ≤ _; omega
        have z2 : (bs [c]).size = 1 := by rw [bs_size]; rfl
        clear hp
        go_wp2_with fail
        go_roundw
        case rel => exact ⟨k + 1, by omega, by rw [HESC.out, HEB.out, ← HAP.out], by push_cast; rfl, HB.out⟩
        case measure => simp [intOf]; omega
      all_goals
        have HEB := Lib.hid (escB_hex hp)
        have hc256 : c.toNat < 256 := c.toNat_lt
        have g1 := fun W => sign_slice (c.toNat / 16) (by omega) W
        have g2 := fun W => sign_slice (c.toNat % 16) (by omega) W
        unfold signsS at g1 g2
        rw [show ((c.toNat / 16 : Nat) : Int) = (c.toNat : Int) / 16 by omega] at g1
        rw [show ((c.toNat % 16 : Nat) : Int) = (c.toNat : Int) % 16 by omega] at g2
        have p1 : (bs [hexD (c.toNat / 16)]).size ≤ 1 := by rw [bs_size]; exact Nat.le_refl _
        have p2 : (bs [hexD (c.toNat % 16)]).size ≤ 1 := by rw [bs_size]; exact Nat.le_refl _
        have q0 : bs [92, hexD (c.toNat / 16), hexD (c.toNat % 16)] = (⟨#[92]⟩ ++ bs [hexD (c.toNat / 16)]) ++ bs [hexD (c.toNat % 16)] := by
          rw [show (⟨#[92]⟩ : ByteArray) = bs [92] from rfl, bs_append, bs_append]; rfl
        have HQ0 := Lib.hid q0
        generalize bs [hexD (c.toNat / 16)] = x1 at *
        generalize bs [hexD (c.toNat % 16)] = x2 at *
        have z1 : catOk ⟨#[92]⟩ x1 := by unfold catOk; show 1 + x1.size ≤ _; omega
        have z2 : catOk (⟨#[92]⟩ ++ x1) x2 := by unfold catOk; rw [ByteArray.size_append]; show 1 + x1.size + x2.size ≤ _; omega
        have z3 : catOk out ((⟨#[92]⟩ ++ x1) ++ x2) := by unfold catOk; rw [ByteArray.size_append, ByteArray.size_append]; show out.size + (1 + x1.size + x2.size) ≤ _; omega
        have u1 : IntKind.u8.wrap ((c.toNat : Int) / 16 + 1) = (c.toNat : Int) / 16 + 1 := wrap_u8 (by omega) (by omega)
        have u2 : IntKind.u8.wrap ((c.toNat : Int) % 16 + 1) = (c.toNat : Int) % 16 + 1 := wrap_u8 (by omega) (by omega)
        clear hp q0
        go_wp2_with fail
        go_quiet (fail)
        go_wp2_with fail
        go_roundw
        case rel => exact ⟨k + 1, by omega, by rw [HESC.out, HEB.out, ← HAP.out, HQ0.out], by push_cast; rfl, by first | exact HB.out | exact below_drewN' HB.out _⟩
        case measure => simp [intOf]; omega
    · obtain rfl : k = s.size := by omega
      have hall : s.data.toList.take s.size = s.data.toList := List.take_of_length_le (by simp)
      rw [hall]
      go_wp2_with fail
      go_ret
      exact ⟨rfl, HB.out⟩
end Go.Proofs.YthalpaggcdpcbaaDoor.Tr
