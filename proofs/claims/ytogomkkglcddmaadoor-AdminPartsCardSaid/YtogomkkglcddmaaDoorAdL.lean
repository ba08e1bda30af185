/- The admin's laws: the document's example; AdminParses, AdminOne. -/
import Derived.Test.YtogomkkglcddmaaDoorAdO
import Derived.Test.YtogomkkglcddmaaDoorOpen
namespace Go.Proofs.YtogomkkglcddmaaDoor.Ad
open Go.RowKit Go.Proofs.YtogomkkglcddmaaDoor Go.Proofs.YtogomkkglcddmaaDoor.Nm Go.Proofs.YtogomkkglcddmaaDoor.Cf
open Builtin in
theorem min_is2 (ats : Array TypeId) (ty : TypeId) (x y : Int) (W : World) : (Builtin.min_ ats ty #[.int .i64 x, .int .i64 y]).run Tryd.prog W = .ok (.int .i64 (if y < x then y else x)) W := by
  simp only [Builtin.min_, List.foldlM_cons, List.foldlM_nil, Builtin.min2]
  rfl
theorem cut_facts2 (k : Nat) (s : ByteArray) : ∃ (m : Int) (t : ByteArray), (∀ W ats ty, (Builtin.min_ ats ty #[.int .i64 (s.size : Int), .int .i64 (k : Int)]).run Tryd.prog W = .ok (.int .i64 m) W) ∧ (∀ W, (Instr.slice 9 (.string s) none (some (.int .i64 m)) none).run Tryd.prog W = .ok (.string t) W) ∧ t.size ≤ k := by
  refine ⟨if (k : Int) < s.size then k else s.size, s.extract 0 (if (k : Int) < s.size then (k : Int) else s.size).toNat, fun W ats ty => min_is2 _ _ _ _ _, fun W => ?_, ?_⟩
  · exact run_slice_string_h (w := W) (ht := Tryd.underlying9) (kh := .i64) (h := if (k : Int) < s.size then (k : Int) else s.size) (h0 := by split <;> omega) (h2 := by split <;> omega)
  · rw [ByteArray.size_extract]
    split <;> omega
theorem flat_C : Flat Tryd.prog 28 [.int, .str] :=
  Flat.struct Tryd.underlying28 (by kernel_rfl) fun i k hk => by
    match i, hk with
    | 0, hk => exact ⟨0, _, [.int], rfl, (by decide : 0 ≤ 0), (by decide : 0 < 0 + 1), Flat.int Tryd.underlying3, (by kernel_rfl), hk⟩
    | 1, hk => exact ⟨1, _, [.str], rfl, (by decide : 1 ≤ 1), (by decide : 1 < 1 + 1), Flat.str Tryd.underlying9, (by kernel_rfl), hk⟩
/-- A command that comes as an argument. -/
theorem cmd_of {cs : Array Value} (h : cs.size = 2 ∧ ∀ (i : Nat) (k : FK), ([.int, .str] : List FK)[i]? = some k → ∃ u, cs[i]? = some u ∧ leafOk k u) :
    ∃ v n, cs = #[.int .i64 v, .string n] ∧ (Lit.int .i64 v).wf = true ∧ n.size ≤ maxLen := by
  obtain ⟨h1, h2⟩ := h
  obtain ⟨u0, g0, l0⟩ := h2 0 .int rfl
  obtain ⟨u1, g1, l1⟩ := h2 1 .str rfl
  obtain ⟨v, rfl, hv⟩ := l0
  obtain ⟨n, rfl, hn⟩ := l1
  refine ⟨v, n, ?_, hv, hn⟩
  apply Array.ext_getElem?
  intro i
  match i with
  | 0 => exact g0
  | 1 => exact g1
  | i + 2 => rw [Array.getElem?_eq_none (by omega), Array.getElem?_eq_none (by simp)]
theorem eqCmd (d : Nat) (w : World) (a b : Int) (s t : ByteArray) :
    (Op.equalIn (d + 2) 24 (.agg #[.int .i64 a, .string s]) (.agg #[.int .i64 b, .string t])).run Tryd.prog w = .ok (a == b && (s.toList == t.toList && true)) w := by
  refine eqA_struct Tryd.underlying24 (by kernel_rfl) ?_
  refine eqf_one (by rfl) (by go_simp; rfl) (by go_simp; rfl) (by go_simp) ?_
  refine eqf_one (by rfl) (by go_simp; rfl) (by go_simp; rfl) (by go_simp) ?_
  exact eqf_none
theorem eqC (d : Nat) (w : World) (a b : Int) (s t : ByteArray) :
    (Op.equalIn (d + 2) 28 (.agg #[.int .i64 a, .string s]) (.agg #[.int .i64 b, .string t])).run Tryd.prog w = .ok (a == b && (s.toList == t.toList && true)) w := by
  refine eqA_struct Tryd.underlying28 (by kernel_rfl) ?_
  refine eqf_one (by rfl) (by go_simp; rfl) (by go_simp; rfl) (by go_simp) ?_
  refine eqf_one (by rfl) (by go_simp; rfl) (by go_simp; rfl) (by go_simp) ?_
  exact eqf_none
/-- 'drain db-1'. -/
theorem ex_parse : parseV ⟨#[100, 114, 97, 105, 110, 32, 100, 98, 45, 49]⟩ = (0, ⟨#[100, 98, 45, 49]⟩, 0) := by
  have h := print_back (v := 0) (n := ⟨#[100, 98, 45, 49]⟩) (s := ⟨#[100, 114, 97, 105, 110, 32, 100, 98, 45, 49]⟩) (by decide +kernel)
  exact h
theorem ex_print : printV 4 ⟨#[]⟩ = (⟨#[115, 116, 97, 116, 117, 115]⟩, 0) := by decide +kernel
theorem ex_answer : answerV 0 = ⟨#[111, 107]⟩ := by decide +kernel
set_option maxRecDepth 100000 in
set_option maxHeartbeats 2000000 in
theorem lives_any (w : World) (hv : VarsB w) : Calls Tryd.prog 14 #[] w fun e w' => e = .returned (.bool true) ∧ Below w.heap.size w w' := by
  have HV := Lib.hid hv
  have HP := Lib.hid (parse_any ⟨#[100, 114, 97, 105, 110, 32, 100, 98, 45, 49]⟩ w hv)
  have HQ := Lib.hid (fun W => print_any 4 ⟨#[]⟩ W)
  have HA := Lib.hid (fun W hv => answer_any 0 (by decide) W hv)
  rw [ex_answer] at HA
  unfold ParsePost at HP
  unfold PrintPost at HQ
  rw [ex_parse] at HP
  rw [ex_print] at HQ
  dsimp only at HP HQ
  clear hv
  go_enter Tryd.func14, Tryd.ntmps14
  go_wp2_with fail
  refine HP.out.mono ?_
  rintro e w1 ⟨rfl, b1⟩
  have B1 := Lib.hid b1
  have HK := Lib.hid (Blk.new w1 24 #[.int .i64 0, .string ⟨#[100, 98, 45, 49]⟩])
  clear b1 HP
  go_wp2_with fail
  refine (HQ.out _).mono ?_
  rintro e w2 ⟨rfl, b2⟩
  have hk := Blk.b (by exact HK.out) b2
  have c0 := hk.cell 0
  have c1 := hk.cell 1
  simp at c0 c1
  have B2 := Lib.hid ((B1.out.alloc B1.out.size (.cells #[.int .i64 0, .string ⟨#[100, 98, 45, 49]⟩] 24)).trans (b2.mono (by have := B1.out.size; simp; omega)))
  clear b2 hk HK HQ
  go_wp2_with fail
  refine (HA.out _ (HV.out.below B2.out)).mono ?_
  rintro e w3 ⟨rfl, b3⟩
  have B3 := Lib.hid (B2.out.trans (b3.mono B2.out.size))
  clear b3 HA
  go_wp2_with fail
  go_ret
  exact ⟨rfl, B3.out⟩
set_option maxRecDepth 100000 in
set_option maxHeartbeats 2000000 in
theorem walk_AdminParses (w : World) (s0 : ByteArray) (_hml : s0.size ≤ maxLen) (hv : VarsB w) :
    Calls Tryd.prog 3 #[.string s0] w fun e w' => e = .returned (.bool true) ∧ Below w.heap.size w w' := by
  obtain ⟨m, s, hmin, hsl, hs⟩ := cut_facts2 420 s0
  replace hmin : ∀ W ats ty, (Builtin.min_ ats ty #[.int .i64 (s0.size : Int), .int .i64 420]).run Tryd.prog W = .ok (.int .i64 m) W := hmin
  have HV := Lib.hid hv
  have HL := Lib.hid (lives_any w hv)
  have HP := Lib.hid (fun W h => parse_any s W h)
  have HQ := Lib.hid (fun W => refparse_any s W)
  unfold ParsePost at HP HQ
  obtain ⟨v, n, er, hp⟩ : ∃ v n er, parseV s = (v, n, er) := ⟨_, _, _, rfl⟩
  rw [hp] at HP HQ
  dsimp only at HP HQ
  have HEQ := fun dd W => eqCmd dd W v v n n
  rw [show (v == v && (n.toList == n.toList && true)) = true by simp] at HEQ
  have te : (er == er) = true := beq_self_eq_true er
  clear hv hp hs _hml
  go_enter Tryd.func3, Tryd.ntmps3
  go_wp2_with fail
  refine HL.out.mono ?_
  rintro e w1 ⟨rfl, b1⟩
  have B1 := Lib.hid b1
  clear b1 HL
  go_wp2_with fail
  refine (HP.out w1 (HV.out.below B1.out)).mono ?_
  rintro e w2 ⟨rfl, b2⟩
  have B2 := Lib.hid ((B1.out.trans (b2.mono B1.out.size)).alloc (B1.out.trans (b2.mono B1.out.size)).size (.cells #[.int .i64 v, .string n] 24))
  have HK := Lib.hid (Blk.new w2 24 #[.int .i64 v, .string n])
  clear b2 HP B1
  go_wp2_with fail
  refine (HQ.out _).mono ?_
  rintro e w4 ⟨rfl, b4⟩
  have hk := Blk.b (by exact HK.out) b4
  have c0 := hk.cell 0
  have c1 := hk.cell 1
  have cl := hk.lt
  simp at c0 c1
  have B4 := Lib.hid ((B2.out.trans (b4.mono B2.out.size)).alloc (B2.out.trans (b4.mono B2.out.size)).size (.cells #[.int .i64 v, .string n] 28))
  clear b4 hk HK HQ
  go_wp2_with fail
  go_ret
  exact ⟨rfl, B4.out⟩
end Go.Proofs.YtogomkkglcddmaaDoor.Ad
