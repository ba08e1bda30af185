/- The reference's numerals and words (hostlerref08: Digits, Words). -/
import Derived.Test.YthalpaggcdpcbaaDoorTSt
import Derived.Test.YthalpaggcdpcbaaDoorTNum
import Derived.Deep.RegionHeld3
import Derived.BigQuiet
namespace Go.Proofs.YthalpaggcdpcbaaDoor.Cf
open Go.RowKit Go.Proofs.YthalpaggcdpcbaaDoor Go.Proofs.YthalpaggcdpcbaaDoor.Nm
def tenS : ByteArray := ⟨#[48, 49, 50, 51, 52, 53, 54, 55, 56, 57]⟩
theorem ten_piece {r : Nat} (h : r < 10) : tenS.extract r (r + 1) = bs [UInt8.ofNat (48 + r)] := by
  match r, h with
  | 0, _ | 1, _ | 2, _ | 3, _ | 4, _ | 5, _ | 6, _ | 7, _ | 8, _ | 9, _ => decide +kernel
theorem run_slice_lh (s : ByteArray) (l h : Int) (h0 : 0 ≤ l) (h1 : l ≤ h) (h2 : h ≤ s.size) (w : World) :
    (Instr.slice 9 (.string s) (some (.int .i64 l)) (some (.int .i64 h)) none).run Tryd.prog w = .ok (.string (s.extract l.toNat h.toNat)) w := by
  have e1 : l ≤ (h.toNat : Int) := by rw [Int.toNat_of_nonneg (by omega)]; exact h1
  have e2 : ∀ W, (Instr.sliceBound (.int .i64 l) h.toNat BoundsCode.sliceB).run Tryd.prog W = .ok l.toNat W := fun W => by
    simp [Instr.sliceBound, asIntOf, h0, e1]
    intro hc
    exfalso
    omega
  simp [Instr.slice, run_underlying Tryd.underlying9, Instr.sliceBounds, run_sliceBound, sliced, *, (by omega : 0 ≤ h)]
theorem run_ten {r : Nat} (h : r < 10) (W : World) : (Instr.slice 9 (.string tenS) (some (.int .i64 (r : Int))) (some (.int .i64 ((r : Int) + 1))) none).run Tryd.prog W = .ok (.string (bs [UInt8.ofNat (48 + r)])) W := by
  rw [← ten_piece h]
  have hsz : tenS.size = 10 := rfl
  have := run_slice_lh tenS (r : Int) ((r : Int) + 1) (by omega) (by omega) (by rw [hsz]; omega) W
  simpa using this
theorem itoa_le (u : Nat) (hu : u < 9223372036854775808) : (bs (Lib.itoa (u : Int))).size ≤ 100 := by
  have key : ∀ (k u : Nat), u < 10 ^ (k + 1) → Lib.nDigits u ≤ k + 1 := by
    intro k
    induction k with
    | zero => intro u hu; rw [Lib.nDigits_small (by simpa using hu)]; exact Nat.le_refl _
    | succ k ih =>
      intro u hu
      by_cases h : u < 10
      · rw [Lib.nDigits_small h]; omega
      · rw [Lib.nDigits_big h]
        have := ih (u / 10) (by rw [Nat.pow_succ] at hu; omega)
        omega
  have h3 := key 19 u (by omega)
  rw [bs_size, Lib.itoa_nonneg, Lib.decDigits_length]
  omega
def strOf : Value → ByteArray
  | .string s => s
  | _ => ⟨#[]⟩
theorem strOf_str (s : ByteArray) : strOf (.string s) = s := rfl
/-- Two texts that may be joined. -/
def catOk (a b : ByteArray) : Prop := a.size + b.size ≤ 1000000000
theorem exec_cat (ev : Operand → Value) (dst : Option Tmp) (x y : Operand) (ty : TypeId) (pos : String) (aft : Array _) (g : Option _) (w : World) (hx : ev x = .string (strOf (ev x))) (hy : ev y = .string (strOf (ev y))) (hs : catOk (strOf (ev x)) (strOf (ev y))) :
    (execOp ev { dst := dst, op := .binOp .add 9 x y 9, type := ty, pos := pos, after := aft, guard := g }).run Tryd.prog w = .ok (.value (.string (strOf (ev x) ++ strOf (ev y)))) w := by
  unfold catOk at hs
  unfold execOp
  rw [hx, hy] at hs ⊢
  simp only [strOf_str] at hs ⊢
  have h1 : ¬ (9223372036854775807 : Int) < (((strOf (ev x)).size + (strOf (ev y)).size : Nat) : Int) := by omega
  generalize strOf (ev x) = a at *
  generalize strOf (ev y) = b at *
  go_simp
  omega
attribute [local go_sem ↓ high] exec_cat
attribute [local go_sem] strOf_str
def DigPost (n : Int) (w : World) (e : Ending) (w' : World) : Prop := e = .returned (.string (bs (Lib.itoa n))) ∧ Below w.heap.size w w'
theorem below_drewN' {B : Nat} {a w : World} (h : Below B a w) (n : Nat) : Below B a (w.drewN n) := ⟨h.os, h.tape, h.output, h.size, h.block⟩
set_option maxRecDepth 100000 in
theorem digits_nat : ∀ (u : Nat), u < 9223372036854775808 → ∀ w, Calls Tryd.prog 28 #[.int .i64 (u : Int)] w (DigPost (u : Int) w) := by
  intro u
  induction u using Nat.strongRecOn with
  | _ u ih =>
    intro hu w
    by_cases h : u < 10
    · have hr := run_ten h
      have hi : Lib.itoa (u : Int) = [UInt8.ofNat (48 + u)] := by rw [Lib.itoa_nonneg, Lib.decDigits_one h]
      unfold DigPost
      rw [hi]
      unfold tenS at hr
      have h0 : ¬ (u : Int) < 0 := by omega
      have h1 : (u : Int) < 10 := by omega
      have h63 : (u : Int) < 9223372036854775807 := by omega
      go_enter Tryd.func28, Tryd.ntmps28
      go_wp2_with fail
      go_ret
      exact ⟨rfl, Below.refl _ _⟩
    · have hr := run_ten (show u % 10 < 10 by omega)
      unfold tenS at hr
      have hi : Lib.itoa (u : Int) = Lib.itoa ((u / 10 : Nat) : Int) ++ [UInt8.ofNat (48 + u % 10)] := by
        rw [Lib.itoa_nonneg, Lib.itoa_nonneg, Lib.decDigits, dif_neg h]
      have HI := Lib.hid (ih (u / 10) (by omega) (by omega))
      have hq : (u : Int).tdiv 10 = ((u / 10 : Nat) : Int) := rfl
      have hm : (u : Int).tmod 10 = ((u % 10 : Nat) : Int) := rfl
      have h0 : ¬ (u : Int) < 0 := by omega
      have h1 : ¬ (u : Int) < 10 := by omega
      have hw1 : IntKind.i64.wrap (((u % 10 : Nat) : Int) + 1) = ((u % 10 : Nat) : Int) + 1 := IntWalk.i64_in _ ⟨by omega, by omega⟩
      have hw2 : IntKind.i64.wrap ((u / 10 : Nat) : Int) = ((u / 10 : Nat) : Int) := IntWalk.i64_in _ ⟨by omega, by omega⟩
      have hw3 : IntKind.i64.wrap ((u % 10 : Nat) : Int) = ((u % 10 : Nat) : Int) := IntWalk.i64_in _ ⟨by omega, by omega⟩
      have hz1 := itoa_le (u / 10) (by omega)
      have hz2 : (bs [UInt8.ofNat (48 + u % 10)]).size = 1 := bs_size _
      unfold DigPost at HI ⊢
      rw [hi, ← bs_append]
      clear ih hi
      generalize bs (Lib.itoa ((u / 10 : Nat) : Int)) = X at HI hz1 ⊢
      generalize bs [UInt8.ofNat (48 + u % 10)] = Y at hr hz2 ⊢
      generalize u / 10 = q at HI hq hw2 ⊢
      generalize u % 10 = r at hr hm hw1 hw3 ⊢
      have hz3 : catOk X Y := by unfold catOk; omega
      clear hz1 hz2
      go_enter Tryd.func28, Tryd.ntmps28
      go_wp2_with fail
      go_region_held3 (fun W => True) (trivial) ((go_at_call 28; refine (HI.out _).mono ?_; rintro e w1 ⟨rfl, b1⟩; have B1 : Hid (Below w.heap.size w w1) := Lib.hid (Below.trans (b := w.drew) (Below.refl _ _).drew b1); clear b1))
      go_wp2_with fail
      go_ret
      exact ⟨rfl, B1.out⟩
theorem least_itoa : bs (Lib.itoa (-9223372036854775808)) = ⟨#[45, 57, 50, 50, 51, 51, 55, 50, 48, 51, 54, 56, 53, 52, 55, 55, 53, 56, 48, 56]⟩ := by
  simp [Lib.itoa, Lib.decDigits, bs]
set_option maxRecDepth 100000 in
theorem digits_any (n : Int) (h : (Lit.int .i64 n).wf = true) (w : World) : Calls Tryd.prog 28 #[.int .i64 n] w (DigPost n w) := by
  have h2 : -9223372036854775808 ≤ n ∧ n ≤ 9223372036854775807 := by simpa [Lit.wf, IntKind.min, IntKind.max, IntKind.signed, IntKind.bits] using h
  by_cases h0 : 0 ≤ n
  · have e : n = ((n.toNat : Nat) : Int) := by omega
    rw [e]
    exact digits_nat n.toNat (by omega) w
  · by_cases hl : n < -9223372036854775807
    · obtain rfl : n = -9223372036854775808 := by omega
      unfold DigPost
      rw [least_itoa]
      go_enter Tryd.func28, Tryd.ntmps28
      go_wp2_with fail
      go_ret
      exact ⟨rfl, Below.refl _ _⟩
    · have hn : n < 0 := by omega
      have hw1 : IntKind.i64.wrap (-n) = -n := IntWalk.i64_in _ ⟨by omega, by omega⟩
      have e : -n = (((-n).toNat : Nat) : Int) := by omega
      have HI := Lib.hid (digits_nat (-n).toNat (by omega))
      have hz1 := itoa_le (-n).toNat (by omega)
      rw [← e] at HI hz1
      have hi : Lib.itoa n = [45] ++ Lib.itoa (-n) := by
        unfold Lib.itoa
        rw [if_pos hn, if_neg (by omega), show n.natAbs = (-n).toNat by omega]
        rfl
      unfold DigPost at HI ⊢
      rw [hi, ← bs_append]
      have hcat : catOk (bs [45]) (bs (Lib.itoa (-n))) := by
        unfold catOk
        rw [show (bs [45]).size = 1 from rfl]
        omega
      clear e hi
      generalize bs (Lib.itoa (-n)) = X at HI hcat hz1 ⊢
      rw [show bs [45] = ⟨#[45]⟩ from rfl] at hcat ⊢
      go_enter Tryd.func28, Tryd.ntmps28
      go_wp2_with fail
      refine (HI.out _).mono ?_
      rintro e w1 ⟨rfl, b1⟩
      go_wp2_with fail
      go_ret
      exact ⟨rfl, b1⟩
end Go.Proofs.YthalpaggcdpcbaaDoor.Cf
