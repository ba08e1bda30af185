/- ConfigFields returns true, for every config, every two places and every number: its walk. -/
import Derived.Test.YtjaoknpdomnnfaaDoorCfL
import Derived.Test.YtjaoknpdomnnfaaDoorCfO
import Derived.Deep.RegionHeld3
namespace Go.Proofs.YtjaoknpdomnnfaaDoor.Cf
open Go.RowKit Go.Proofs.YtjaoknpdomnnfaaDoor Go.Proofs.YtjaoknpdomnnfaaDoor.Nm

theorem below_drewN {B : Nat} {a w : World} (h : Below B a w) (n : Nat) : Below B a (w.drewN n) := ⟨h.os, h.tape, h.output, h.size, h.block⟩
theorem inV_nat {k : Nat} (h : k < 15) : inV (k : Int) = true := by
  unfold inV
  simp only [Bool.and_eq_true, decide_eq_true_eq]
  omega
/-- uint(x) % 15. -/
theorem mod15 (x : Int) : ∃ m : Nat, m < 15 ∧ (IntKind.u64.wrap x).tmod 15 = m := by
  have h0 : 0 ≤ IntKind.u64.wrap x := by rw [IntKind.wrap_u64]; exact Int.emod_nonneg _ (by decide)
  rw [Int.tmod_eq_emod_of_nonneg h0]
  have := Int.emod_nonneg (IntKind.u64.wrap x) (show (15 : Int) ≠ 0 by omega)
  have := Int.emod_lt_of_pos (IntKind.u64.wrap x) (show (0 : Int) < 15 by omega)
  exact ⟨((IntKind.u64.wrap x) % 15).toNat, by omega, by omega⟩
theorem pair_of {cs : Array Value} (h : cs.size = 2 ∧ ∀ (i : Nat) (k : FK), [FK.int, .int][i]? = some k → ∃ u, cs[i]? = some u ∧ leafOk k u) : ∃ x y, cs = #[.int .i64 x, .int .i64 y] := by
  obtain ⟨hs, hl⟩ := h
  obtain ⟨u, hu, x, rfl, _⟩ := hl 0 _ rfl
  obtain ⟨v, hv, y, rfl, _⟩ := hl 1 _ rfl
  refine ⟨x, y, ?_⟩
  apply Array.ext_getElem?
  intro i
  match i with
  | 0 => rw [hu]; rfl
  | 1 => rw [hv]; rfl
  | i + 2 => rw [Array.getElem?_eq_none (by omega)]; rfl
theorem flat_two : Flat Tryd.prog 44 [.int, .int] := Flat.array (ke := [.int]) Tryd.underlying44 (by kernel_rfl) (Flat.int Tryd.underlying3) (by kernel_rfl) (fun i k hk => by
    match i, hk with
    | 0, hk | 1, hk => exact ⟨by decide, hk⟩
    | i + 2, hk => simp at hk)
/-- A block's row, as the world has it. -/
def rowOf (w : World) (b : Nat) : Array Value := match w.heap[b]? with
  | some (.cells C _ _) => C
  | _ => #[]
def hasRow (w : World) (b n : Nat) : Prop := ∃ C, Blk w b 24 C ∧ C.size = n
theorem rowOf_blk {w : World} {b : Nat} {t : TypeId} {C : Array Value} (h : Blk w b t C) : rowOf w b = C := by
  unfold rowOf
  rw [show w.heap[b]? = some (.cells C t (0, 0)) from h]
theorem hasRow_new (w : World) (C : Array Value) {n : Nat} (hn : C.size = n) : hasRow (w.alloc (.cells C 24)) w.heap.size n := ⟨C, Blk.new _ _ _, hn⟩
theorem hasRow_made (w : World) (C : Array Value) (n : Nat) (hn : C.size = n) : hasRow (w.alloc (.cells C 24)) w.heap.size n = True := eq_true (hasRow_new w C hn)
theorem hasRow_below {w w' : World} {b n : Nat} (h : hasRow w b n) (hb : Below w.heap.size w w') : hasRow w' b n := by
  obtain ⟨C, h1, h2⟩ := h
  exact ⟨C, h1.b hb, h2⟩
def blockOf : Value → Nat
  | .pointer (some a) => a.block
  | _ => 0
theorem blockOf_ptr (b o : Nat) (i : Option Nat) : blockOf (.pointer (some ⟨b, o, i⟩)) = b := rfl
def aggOf : Value → Array Value
  | .agg C => C
  | _ => #[]
theorem aggOf_agg (C : Array Value) : aggOf (.agg C) = C := rfl
def storeRow (w : World) (b : Nat) (C : Array Value) : World := w.setCells b 0 C.toList
theorem storeRow_at {w : World} {b : Nat} {C : Array Value} (h : hasRow w b C.size) : Blk (storeRow w b C) b 24 C ∧ Only (fun g => g = b) w (storeRow w b C) := by
  obtain ⟨C0, h1, h2⟩ := h
  exact store_to h1 h2
theorem below_storeRow {w0 w : World} {b : Nat} {C : Array Value} (h : Below w0.heap.size w0 w) (hr : hasRow w b C.size) (hb : w0.heap.size ≤ b) : Below w0.heap.size w0 (storeRow w b C) := only_below h (storeRow_at hr).2 hb
theorem chain {w0 wa wb : World} (h : Below w0.heap.size w0 wa) (k : Below wa.heap.size wa wb) : Below w0.heap.size w0 wb := h.trans (k.mono h.size)
/-- A value that may be stored as a row of n cells. -/
def rowOk (v : Value) (n : Nat) : Prop := ∃ C, v = .agg C ∧ C.size = n ∧ C.all (·.oneCell') = true
theorem rowOk_cfg {c : List Int} (hc : c.length = 15) : rowOk (.agg (cfgA c)) 15 := ⟨_, rfl, by rw [cfgA_size, hc], cfgA_one c⟩
theorem exec_load_row (ev : Operand → Value) (dst : Option Tmp) (x : Operand) (ty : TypeId) (pos : String) (aft : Array _) (g : Option _) (w : World) (hp : ev x = .pointer (some ⟨blockOf (ev x), 0, none⟩)) (hr : hasRow w (blockOf (ev x)) 15) :
    (execOp ev { dst := dst, op := .load 24 x, type := ty, pos := pos, after := aft, guard := g }).run Tryd.prog w = .ok (.value (.agg (rowOf w (blockOf (ev x))))) w := by
  obtain ⟨C, hB, hn⟩ := hr
  rw [rowOf_blk hB]
  have := run_loadAt_mid (P := Tryd.prog) w (blockOf (ev x)) 0 24 C.toList _ (blk_range hB) Tryd.underlying24 rfl (by rw [Array.length_toList, hn]; exact cfg_size)
  rw [← hp] at this
  unfold execOp
  simp only [Sem.run_bind, this, Result.andThen_ok]
  simp
theorem exec_store_row (ev : Operand → Value) (dst : Option Tmp) (x y : Operand) (ty : TypeId) (pos : String) (aft : Array _) (g : Option _) (w : World) (hp : ev x = .pointer (some ⟨blockOf (ev x), 0, none⟩)) (hy : rowOk (ev y) 15) (hr : hasRow w (blockOf (ev x)) 15) :
    (execOp ev { dst := dst, op := .store 24 x y, type := ty, pos := pos, after := aft, guard := g }).run Tryd.prog w = .ok .skip (storeRow w (blockOf (ev x)) (aggOf (ev y))) := by
  obtain ⟨C, hB, hn⟩ := hr
  obtain ⟨D, hD, hs, h1⟩ := hy
  have := run_storeAt_mid (P := Tryd.prog) w (blockOf (ev x)) 0 24 D (by rw [hs, ← hn]; exact blk_there hB) (by rw [hs]; exact cfg_size) h1
  rw [← hp, ← hD] at this
  rw [show aggOf (ev y) = D by rw [hD]; rfl]
  unfold execOp
  simp only [Sem.run_bind, this, Result.andThen_ok]
  simp [storeRow]
attribute [local go_sem ↓ high] exec_load_row exec_store_row
attribute [local go_sem] blockOf_ptr aggOf_agg hasRow_made
set_option maxRecDepth 100000 in
theorem fieldOf_any (c : List Int) (hc : c.length = 15) (n : Int) (w : World) :
    Calls Tryd.prog 28 #[.agg (cfgA c), .int .i64 n] w fun e w' => e = .returned (.int .i64 (fieldV c n)) ∧ Below w.heap.size w w' := by
  have hsz := cfg_sz hc
  have HF := Lib.hid (field_any c hc n)
  have B0 := Lib.hid ((Below.refl w.heap.size w).alloc (Nat.le_refl _) (.cells (cfgA c) 24))
  go_enter Tryd.func28, Tryd.ntmps28
  go_wp2_with (refine load_blk (by rfl) _ (by rfl) (by rfl) (heap_at_new _ (by simp)) _ Tryd.underlying24 rfl hsz ?_)
  refine (HF.out _).mono ?_
  rintro e w1 ⟨rfl, b1⟩
  have B1 := Lib.hid (B0.out.trans (b1.mono B0.out.size))
  clear b1
  go_wp2_with fail
  go_ret
  exact ⟨rfl, B1.out⟩
theorem names_inj {a b : Nat} (ha : a < 15) (hb : b < 15) : (nameV (a : Int) = nameV (b : Int) ↔ a = b) ∧ (nameV (a : Int)).toList.isEmpty = false := by
  have key : ∀ a < 15, ∀ b < 15, (nameV ((a : Nat) : Int) = nameV ((b : Nat) : Int) ↔ a = b) ∧ (nameV ((a : Nat) : Int)).data.toList.isEmpty = false := by decide +kernel
  have := key a ha b hb
  rw [ByteArray.toList_eq]
  exact this
theorem fieldV_set {c : List Int} (hc : c.length = 15) {n k : Nat} (hn : n < 15) (hk : k < 15) (v : Int) : fieldV (c.set n v) (k : Int) = if k = n then v else fieldV c (k : Int) := by
  unfold fieldV
  rw [inV_nat hk]
  simp only [if_true, Int.toNat_natCast, fld, List.getD_eq_getElem?_getD]
  by_cases h : k = n
  · subst h
    rw [if_pos rfl, List.getElem?_set_self (by omega)]
    rfl
  · rw [if_neg h, List.getElem?_set_ne (fun e => h e.symm)]
theorem set_back {c : List Int} (hc : c.length = 15) {n : Nat} (hn : n < 15) (v : Int) : (c.set n v).set n (fieldV c (n : Int)) = c := by
  unfold fieldV
  rw [inV_nat hn]
  simp only [if_true, Int.toNat_natCast]
  rw [List.set_set]
  have h := fld_at hc hn
  obtain ⟨h1, h2⟩ := List.getElem?_eq_some_iff.1 h
  rw [← h2, List.set_getElem_self]
set_option maxRecDepth 100000 in
set_option maxHeartbeats 8000000 in
theorem walk_ConfigFields (w : World) (c : List Int) (hc : c.length = 15) (_ : ∀ x ∈ c, (Lit.int .i64 x).wf = true) (cs : Array Value) (h2 : cs.size = 2 ∧ ∀ (i : Nat) (k : FK), [FK.int, .int][i]? = some k → ∃ u, cs[i]? = some u ∧ leafOk k u) (v : Int) (_ : (Lit.int .i64 v).wf = true) (hv : Vars w) :
    Calls Tryd.prog 7 #[.agg (cfgA c), .agg cs, .int .i64 v] w fun e w' => e = .returned (.bool true) ∧ Below w.heap.size w w' := by
  obtain ⟨x0, x1, rfl⟩ := pair_of h2
  clear h2
  obtain ⟨n, hn, en⟩ := mod15 x0
  obtain ⟨k, hk, ek⟩ := mod15 x1
  have hb0 := ((Below.refl w.heap.size w).alloc (Nat.le_refl _) (.cells (cfgA c) 24)).alloc (by simp) (.cells #[.int .i64 x0, .int .i64 x1] 44)
  have HL := Lib.hid (lives_any _ (hv.below hb0))
  have hdl : (c.set n v).length = 15 := by rw [List.length_set]; exact hc
  have sV : setV c (n : Int) v = c.set n v := by unfold setV; rw [inV_nat hn]; rfl
  have sB : setV (c.set n v) (n : Int) (fieldV c (n : Int)) = c := by
    have : setV (c.set n v) (n : Int) (fieldV c (n : Int)) = (c.set n v).set n (fieldV c (n : Int)) := by unfold setV; rw [inV_nat hn]; rfl
    rw [this, set_back hc hn]
  have HS1 := Lib.hid (set_any c hc (n : Int) v)
  have HS2 := Lib.hid (set_any (c.set n v) hdl (n : Int) (fieldV c (n : Int)))
  have HF1 := Lib.hid (field_any (c.set n v) hdl (n : Int))
  have HF2 := Lib.hid (field_any (c.set n v) hdl (k : Int))
  have HF3 := Lib.hid (field_any c hc (k : Int))
  have HFO := Lib.hid (fieldOf_any c hc (n : Int))
  rw [sV, inV_nat hn] at HS1
  rw [sB, inV_nat hn] at HS2
  rw [fieldV_set hc hn hn, if_pos rfl, inV_nat hn] at HF1
  rw [fieldV_set hc hn hk, inV_nat hk] at HF2
  rw [inV_nat hk] at HF3
  have HN1 := Lib.hid (name_any (n : Int))
  have HN2 := Lib.hid (name_any (k : Int))
  obtain ⟨nj, ne⟩ := names_inj hn hk
  have tnn : (nameV (n : Int)).toList.isEmpty = false := ne
  have tnk : ((nameV (n : Int)).toList == (nameV (k : Int)).toList) = ((n : Int) == (k : Int)) := by
    rw [ByteArray.toList_eq, ByteArray.toList_eq, Bool.eq_iff_iff]
    simp only [beq_iff_eq]
    constructor
    · intro h
      have : nameV (n : Int) = nameV (k : Int) := by rw [← of_bs (nameV (n : Int)), h, of_bs]
      exact congrArg Int.ofNat (nj.1 this)
    · intro h
      rw [h]
  clear nj ne
  generalize c.set n v = d at hdl HS1 HS2 HF1 HF2
  generalize nameV (n : Int) = s1 at HN1 tnn tnk
  generalize nameV (k : Int) = s2 at HN2 tnk
  generalize fieldV c (n : Int) = fo at HS2 HFO
  generalize fieldV c (k : Int) = z at HF2 HF3
  obtain ⟨y, hy⟩ : ∃ y, (if k = n then v else z) = y := ⟨_, rfl⟩
  rw [hy] at HF2
  have HY : Hid (k = n ∨ (k ≠ n ∧ y = z)) := Lib.hid (by
    by_cases h : k = n
    · exact .inl h
    · rw [if_neg h] at hy; exact .inr ⟨h, hy.symm⟩)
  clear hy
  have hsc := cfg_sz hc
  have hsd := cfg_sz hdl
  have HZD := Lib.hid (show (15 : Nat) = (cfgA d).size by rw [cfgA_size, hdl])
  have HZC := Lib.hid (show (15 : Nat) = (cfgA c).size by rw [cfgA_size, hc])
  have HEQ := fun dd W => eqCfg dd W hc hc
  rw [show decide (c = c) = true from decide_eq_true rfl] at HEQ
  clear hb0 hv sV sB
  have hn15 : (n : Int) < 15 := by omega
  have hk15 : (k : Int) < 15 := by omega
  go_enter Tryd.func7, Tryd.ntmps7
  go_wp2_with fail
  refine HL.out.mono ?_
  rintro e w1 ⟨rfl, b1⟩
  have HK1 := Lib.hid (show Blk w1 w.heap.size 24 (cfgA c) from (b1.block _ (by simp; omega)).trans (heap_at_old (by simp) (heap_at_new _ (by simp))))
  have hp1 : Blk w1 (w.heap.size + 1) 44 #[.int .i64 x0, .int .i64 x1] := (b1.block _ (by simp)).trans (heap_at_new _ (by simp))
  have e0 := hp1.cell 0
  have e1 := hp1.cell 1
  simp at e0 e1
  have B1 := Lib.hid ((((Below.refl w.heap.size w).alloc (Nat.le_refl _) _).alloc (by simp) _).trans (b1.mono (by simp; omega)))
  clear b1 HL hp1
  go_wp2_with fail
  go_quiet (fail)
  have HKd := Lib.hid (HK1.out.drewN nq)
  have Bd := Lib.hid (below_drewN B1.out nq)
  generalize w1.drewN nq = wd at HKd Bd
  clear HK1 B1 e0 e1
  go_wp2_with (first | (refine load_blk (by rfl) _ (by rfl) (by rfl) HKd.out _ Tryd.underlying24 rfl hsc ?_) | (refine load_blk_g (by rfl) _ (by rfl) (by rfl) HKd.out _ Tryd.underlying24 rfl hsc ?_))
  refine (HS1.out wd).mono ?_
  rintro e w2 ⟨rfl, b2⟩
  have HK2 := Lib.hid (HKd.out.b b2)
  have B2 := Lib.hid (Bd.out.trans (b2.mono Bd.out.size))
  have hlt2 := HK2.out.lt
  clear b2 HS1 HKd Bd
  go_wp2_with (first | (refine store_blk (C := cfgA d) (by rfl) _ _ (by rfl) (by rfl) (by rfl) (heap_at_new _ (by simp)) HZD.out hsd (cfgA_one _) ?_; intro w3 hb3 ho3; have HD3 := Lib.hid hb3; have HK3 := Lib.hid (Blk.only (HK2.out.alloc _) ho3 (by show ¬ w.heap.size = w2.heap.size; omega)); have B3 := Lib.hid (only_below (B2.out.alloc B2.out.size _) ho3 B2.out.size); clear hb3 ho3) | (refine load_blk (by rfl) _ (by rfl) (by rfl) HD3.out _ Tryd.underlying24 rfl hsd ?_) | (refine load_blk_g (by rfl) _ (by rfl) (by rfl) HD3.out _ Tryd.underlying24 rfl hsd ?_))
  refine (HF1.out w3).mono ?_
  rintro e w4 ⟨rfl, b4⟩
  have HD4 := Lib.hid (HD3.out.b b4)
  have HK4 := Lib.hid (HK3.out.b b4)
  have B4 := Lib.hid (B3.out.trans (b4.mono B3.out.size))
  clear b4 HD3 HK3 B3 HF1 HK2 B2
  generalize w2.heap.size = q at HD4 hlt2 ⊢
  go_wp2_with (first | (refine load_blk (by rfl) _ (by rfl) (by rfl) HD4.out _ Tryd.underlying24 rfl hsd ?_) | (refine load_blk_g (by rfl) _ (by rfl) (by rfl) HD4.out _ Tryd.underlying24 rfl hsd ?_))
  refine (HF2.out w4).mono ?_
  rintro e w5 ⟨rfl, b5⟩
  have HD5 := Lib.hid (HD4.out.b b5)
  have HK5 := Lib.hid (HK4.out.b b5)
  have B5 := Lib.hid (B4.out.trans (b5.mono B4.out.size))
  clear b5 HD4 HK4 B4 HF2
  go_wp2_with (first | (refine load_blk (by rfl) _ (by rfl) (by rfl) HK5.out _ Tryd.underlying24 rfl hsc ?_) | (refine load_blk_g (by rfl) _ (by rfl) (by rfl) HK5.out _ Tryd.underlying24 rfl hsc ?_))
  refine (HF3.out w5).mono ?_
  rintro e w6 ⟨rfl, b6⟩
  have HD6 := Lib.hid (HD5.out.b b6)
  have HK6 := Lib.hid (HK5.out.b b6)
  have B6 := Lib.hid (B5.out.trans (b6.mono B5.out.size))
  clear b6 HD5 HK5 B5 HF3
  have HKR : Hid (∀ W, Below w6.heap.size w6 W → (hasRow W q 15 ∧ rowOf W q = cfgA d) ∧ (hasRow W w.heap.size 15 ∧ rowOf W w.heap.size = cfgA c)) := Lib.hid fun W hW => ⟨⟨⟨_, HD6.out.b hW, HZD.out.symm⟩, rowOf_blk (HD6.out.b hW)⟩, ⟨_, HK6.out.b hW, HZC.out.symm⟩, rowOf_blk (HK6.out.b hW)⟩
  go_wp2_with fail
  have hzc : (cfgA c).size = 15 := HZC.out.symm
  have HB := Lib.hid (Below.refl w6.heap.size w6)
  have hrk := rowOk_cfg hc
  have hsz0 : w6.heap.size ≤ w6.heap.size := Nat.le_refl _
  go_region_held3 (fun W => (hasRow W q 15 ∧ rowOf W q = cfgA d) ∧ (hasRow W w.heap.size 15 ∧ rowOf W w.heap.size = cfgA c)) ((refine HKR.out _ ?_; (repeat (first | with_reducible assumption | with_reducible exact HB.out | with_reducible exact Below.refl _ _ | with_reducible refine Below.drew ?_ | with_reducible refine below_drewN ?_ _ | with_reducible refine Below.alloc ?_ (by first | exact Nat.le_refl _ | assumption | omega | (simp; omega)) _ | with_reducible refine below_storeRow ?_ (by (rw [hzc]; first | with_reducible assumption | exact hasRow_new _ _ rfl)) (by first | exact Nat.le_refl _ | assumption)))))
    (first | (go_at_call 28; refine (HFO.out _).mono ?_; rintro e wj ⟨rfl, hbj⟩; (try have nb : hasRow wj w6.heap.size 15 := hasRow_below (hasRow_new (n := 15) w6.drew _ rfl) hbj); replace HB := Lib.hid (chain (w0 := w6) (by (repeat (first | with_reducible assumption | with_reducible exact HB.out | with_reducible exact Below.refl _ _ | with_reducible refine Below.drew ?_ | with_reducible refine below_drewN ?_ _ | with_reducible refine Below.alloc ?_ (by first | exact Nat.le_refl _ | assumption | omega | (simp; omega)) _ | with_reducible refine below_storeRow ?_ (by (rw [hzc]; first | with_reducible assumption | exact hasRow_new _ _ rfl)) (by first | exact Nat.le_refl _ | assumption)))) hbj); have hszj := HB.out.size; clear hbj) | (go_at_call 20; refine (HS2.out _).mono ?_; rintro e wl ⟨rfl, hbl⟩; (first | (have nb2 : hasRow wl w6.heap.size 15 := hasRow_below nb hbl) | (have nb2 : hasRow wl wj.heap.size 15 := hasRow_below (hasRow_new (n := 15) _ _ rfl) hbl) | skip); replace HB := Lib.hid (chain (w0 := w6) (by (repeat (first | with_reducible assumption | with_reducible exact HB.out | with_reducible exact Below.refl _ _ | with_reducible refine Below.drew ?_ | with_reducible refine below_drewN ?_ _ | with_reducible refine Below.alloc ?_ (by first | exact Nat.le_refl _ | assumption | omega | (simp; omega)) _ | with_reducible refine below_storeRow ?_ (by (rw [hzc]; first | with_reducible assumption | exact hasRow_new _ _ rfl)) (by first | exact Nat.le_refl _ | assumption)))) hbl); have hszl := HB.out.size; clear hbl))
  · have HR9 : hasRow (wl.alloc (.cells #[.int .i64 0, .int .i64 0, .int .i64 0, .int .i64 0, .int .i64 0, .int .i64 0, .int .i64 0, .int .i64 0, .int .i64 0, .int .i64 0, .int .i64 0, .int .i64 0, .int .i64 0, .int .i64 0, .int .i64 0] 24)) wl.heap.size (cfgA c).size := by rw [hzc]; exact hasRow_new _ _ rfl
    have HW9 : Below w6.heap.size w6 (storeRow (wl.alloc (.cells #[.int .i64 0, .int .i64 0, .int .i64 0, .int .i64 0, .int .i64 0, .int .i64 0, .int .i64 0, .int .i64 0, .int .i64 0, .int .i64 0, .int .i64 0, .int .i64 0, .int .i64 0, .int .i64 0, .int .i64 0] 24)) wl.heap.size (cfgA c)) := below_storeRow (HB.out.alloc hszl _) HR9 hszl
    have H9 := Lib.hid (storeRow_at HR9).1
    have K9 := Lib.hid (HK6.out.b HW9)
    have B9 := Lib.hid (B6.out.trans (HW9.mono B6.out.size))
    clear HW9 HR9
    generalize storeRow (wl.alloc (.cells #[.int .i64 0, .int .i64 0, .int .i64 0, .int .i64 0, .int .i64 0, .int .i64 0, .int .i64 0, .int .i64 0, .int .i64 0, .int .i64 0, .int .i64 0, .int .i64 0, .int .i64 0, .int .i64 0, .int .i64 0] 24)) wl.heap.size (cfgA c) = w9 at H9 K9 B9 ⊢
    generalize wl.heap.size = q9 at H9 ⊢
    rename_i hh
    clear hh
    have r1 : hasRow w9 q9 15 := ⟨_, H9.out, hzc⟩
    have r2 : rowOf w9 q9 = cfgA c := rowOf_blk H9.out
    have r3 : hasRow w9 w.heap.size 15 := ⟨_, K9.out, hzc⟩
    have r4 : rowOf w9 w.heap.size = cfgA c := rowOf_blk K9.out
    have tv : (v == v) = true := beq_self_eq_true v
    rcases HY.out with hkn | ⟨hkn, hyz⟩
    · subst hkn
      have t1 : ((k : Int) == (k : Int)) = true := beq_self_eq_true _
      go_wp2_with fail
      refine (HN1.out w9).mono ?_
      rintro e w10 ⟨rfl, b10⟩
      have B10 := Lib.hid (B9.out.trans (b10.mono B9.out.size))
      clear b10
      go_wp2_with fail
      refine (HN2.out w10).mono ?_
      rintro e w11 ⟨rfl, b11⟩
      have B11 := Lib.hid (B10.out.trans (b11.mono B10.out.size))
      clear b11
      go_wp2_with fail
      refine (HN1.out w11).mono ?_
      rintro e w12 ⟨rfl, b12⟩
      have B12 := Lib.hid (B11.out.trans (b12.mono B11.out.size))
      clear b12
      go_wp2_with fail
      go_ret
      exact ⟨rfl, B12.out⟩
    · have t1 : ((k : Int) == (n : Int)) = false := beq_eq_false_iff_ne.2 (by omega)
      have t2 : (y == z) = true := beq_iff_eq.2 hyz
      go_wp2_with fail
      refine (HN1.out w9).mono ?_
      rintro e w10 ⟨rfl, b10⟩
      have B10 := Lib.hid (B9.out.trans (b10.mono B9.out.size))
      clear b10
      go_wp2_with fail
      refine (HN2.out w10).mono ?_
      rintro e w11 ⟨rfl, b11⟩
      have B11 := Lib.hid (B10.out.trans (b11.mono B10.out.size))
      clear b11
      go_wp2_with fail
      refine (HN1.out w11).mono ?_
      rintro e w12 ⟨rfl, b12⟩
      have B12 := Lib.hid (B11.out.trans (b12.mono B11.out.size))
      clear b12
      go_wp2_with fail
      go_ret
      exact ⟨rfl, B12.out⟩
  · have HR9 : hasRow (wl) wj.heap.size (cfgA c).size := by rw [hzc]; exact nb2
    have HW9 : Below w6.heap.size w6 (storeRow (wl) wj.heap.size (cfgA c)) := below_storeRow HB.out HR9 hszj
    have H9 := Lib.hid (storeRow_at HR9).1
    have K9 := Lib.hid (HK6.out.b HW9)
    have B9 := Lib.hid (B6.out.trans (HW9.mono B6.out.size))
    clear HW9 HR9
    generalize storeRow (wl) wj.heap.size (cfgA c) = w9 at H9 K9 B9 ⊢
    generalize wj.heap.size = q9 at H9 ⊢
    rename_i hh
    clear hh
    have r1 : hasRow w9 q9 15 := ⟨_, H9.out, hzc⟩
    have r2 : rowOf w9 q9 = cfgA c := rowOf_blk H9.out
    have r3 : hasRow w9 w.heap.size 15 := ⟨_, K9.out, hzc⟩
    have r4 : rowOf w9 w.heap.size = cfgA c := rowOf_blk K9.out
    have tv : (v == v) = true := beq_self_eq_true v
    rcases HY.out with hkn | ⟨hkn, hyz⟩
    · subst hkn
      have t1 : ((k : Int) == (k : Int)) = true := beq_self_eq_true _
      go_wp2_with fail
      refine (HN1.out w9).mono ?_
      rintro e w10 ⟨rfl, b10⟩
      have B10 := Lib.hid (B9.out.trans (b10.mono B9.out.size))
      clear b10
      go_wp2_with fail
      refine (HN2.out w10).mono ?_
      rintro e w11 ⟨rfl, b11⟩
      have B11 := Lib.hid (B10.out.trans (b11.mono B10.out.size))
      clear b11
      go_wp2_with fail
      refine (HN1.out w11).mono ?_
      rintro e w12 ⟨rfl, b12⟩
      have B12 := Lib.hid (B11.out.trans (b12.mono B11.out.size))
      clear b12
      go_wp2_with fail
      go_ret
      exact ⟨rfl, B12.out⟩
    · have t1 : ((k : Int) == (n : Int)) = false := beq_eq_false_iff_ne.2 (by omega)
      have t2 : (y == z) = true := beq_iff_eq.2 hyz
      go_wp2_with fail
      refine (HN1.out w9).mono ?_
      rintro e w10 ⟨rfl, b10⟩
      have B10 := Lib.hid (B9.out.trans (b10.mono B9.out.size))
      clear b10
      go_wp2_with fail
      refine (HN2.out w10).mono ?_
      rintro e w11 ⟨rfl, b11⟩
      have B11 := Lib.hid (B10.out.trans (b11.mono B10.out.size))
      clear b11
      go_wp2_with fail
      refine (HN1.out w11).mono ?_
      rintro e w12 ⟨rfl, b12⟩
      have B12 := Lib.hid (B11.out.trans (b12.mono B11.out.size))
      clear b12
      go_wp2_with fail
      go_ret
      exact ⟨rfl, B12.out⟩
  · have HR9 : hasRow (wl) w6.heap.size (cfgA c).size := by rw [hzc]; exact nb2
    have HW9 : Below w6.heap.size w6 (storeRow (wl) w6.heap.size (cfgA c)) := below_storeRow HB.out HR9 (Nat.le_refl _)
    have H9 := Lib.hid (storeRow_at HR9).1
    have K9 := Lib.hid (HK6.out.b HW9)
    have B9 := Lib.hid (B6.out.trans (HW9.mono B6.out.size))
    clear HW9 HR9
    generalize storeRow (wl) w6.heap.size (cfgA c) = w9 at H9 K9 B9 ⊢
    generalize w6.heap.size = q9 at H9 ⊢
    rename_i hh
    clear hh
    have r1 : hasRow w9 q9 15 := ⟨_, H9.out, hzc⟩
    have r2 : rowOf w9 q9 = cfgA c := rowOf_blk H9.out
    have r3 : hasRow w9 w.heap.size 15 := ⟨_, K9.out, hzc⟩
    have r4 : rowOf w9 w.heap.size = cfgA c := rowOf_blk K9.out
    have tv : (v == v) = true := beq_self_eq_true v
    rcases HY.out with hkn | ⟨hkn, hyz⟩
    · subst hkn
      have t1 : ((k : Int) == (k : Int)) = true := beq_self_eq_true _
      go_wp2_with fail
      refine (HN1.out w9).mono ?_
      rintro e w10 ⟨rfl, b10⟩
      have B10 := Lib.hid (B9.out.trans (b10.mono B9.out.size))
      clear b10
      go_wp2_with fail
      refine (HN2.out w10).mono ?_
      rintro e w11 ⟨rfl, b11⟩
      have B11 := Lib.hid (B10.out.trans (b11.mono B10.out.size))
      clear b11
      go_wp2_with fail
      refine (HN1.out w11).mono ?_
      rintro e w12 ⟨rfl, b12⟩
      have B12 := Lib.hid (B11.out.trans (b12.mono B11.out.size))
      clear b12
      go_wp2_with fail
      go_ret
      exact ⟨rfl, B12.out⟩
    · have t1 : ((k : Int) == (n : Int)) = false := beq_eq_false_iff_ne.2 (by omega)
      have t2 : (y == z) = true := beq_iff_eq.2 hyz
      go_wp2_with fail
      refine (HN1.out w9).mono ?_
      rintro e w10 ⟨rfl, b10⟩
      have B10 := Lib.hid (B9.out.trans (b10.mono B9.out.size))
      clear b10
      go_wp2_with fail
      refine (HN2.out w10).mono ?_
      rintro e w11 ⟨rfl, b11⟩
      have B11 := Lib.hid (B10.out.trans (b11.mono B10.out.size))
      clear b11
      go_wp2_with fail
      refine (HN1.out w11).mono ?_
      rintro e w12 ⟨rfl, b12⟩
      have B12 := Lib.hid (B11.out.trans (b12.mono B11.out.size))
      clear b12
      go_wp2_with fail
      go_ret
      exact ⟨rfl, B12.out⟩
end Go.Proofs.YtjaoknpdomnnfaaDoor.Cf
