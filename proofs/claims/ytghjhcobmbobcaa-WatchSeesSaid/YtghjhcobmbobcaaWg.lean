/- WatchAudit returns true, for every list of outputs and every number: its walk. -/
import Derived.Test.YtghjhcobmbobcaaWe
import Derived.Test.YtghjhcobmbobcaaWi
import Derived.Test.YtghjhcobmbobcaaOpen
namespace Go.Proofs.Ytghjhcobmbobcaa.Wt
open Go.RowKit Go.Proofs.Ytghjhcobmbobcaa.Mp Go.Proofs.Ytghjhcobmbobcaa Go.Proofs.YtghjhcobmbobcaaW.PrintWords Go.Proofs.YtghjhcobmbobcaaW.PrintLast Go.Proofs.YtghjhcobmbobcaaW.PrintMore Go.Proofs.Ytghjhcobmbobcaa.PWatchAudit

theorem flat_Frame : Flat Try.prog 34 [.int, .str] :=
  Flat.struct Try.underlying34 (by kernel_rfl) fun i k hk => by
    match i, hk with
    | 0, hk => exact ⟨0, _, [.int], rfl, Nat.le_refl _, by decide, Flat.int Try.underlying3, by kernel_rfl, hk⟩
    | 1, hk => exact ⟨1, _, [.str], rfl, by decide, by decide, Flat.str Try.underlying9, by kernel_rfl, hk⟩
    | i + 2, hk => simp at hk
theorem flat_Out : Flat Try.prog 36 [.int, .int, .int, .str, .str] :=
  Flat.struct Try.underlying36 (by kernel_rfl) fun i k hk => by
    match i, hk with
    | 0, hk => exact ⟨0, _, [.int], rfl, Nat.le_refl _, by decide, Flat.int Try.underlying3, by kernel_rfl, hk⟩
    | 1, hk => exact ⟨1, _, [.int], rfl, by decide, by decide, Flat.int Try.underlying3, by kernel_rfl, hk⟩
    | 2, hk => exact ⟨2, _, [.int, .str], rfl, by decide, by decide, flat_Frame, by kernel_rfl, hk⟩
    | 3, hk => exact ⟨2, _, [.int, .str], rfl, by decide, by decide, flat_Frame, by kernel_rfl, hk⟩
    | 4, hk => exact ⟨3, _, [.str], rfl, by decide, by decide, Flat.str Try.underlying9, by kernel_rfl, hk⟩
    | i + 5, hk => simp at hk
/-- What lies in five cells. -/
def strOf : Value → ByteArray
  | .string s => s
  | _ => ⟨#[]⟩
def out5 (xs : List Value) (i : Nat) : S36 := ⟨intOf (xs.getD (i * 5) undef), intOf (xs.getD (i * 5 + 1) undef), ⟨intOf (xs.getD (i * 5 + 2) undef), strOf (xs.getD (i * 5 + 3) undef)⟩, strOf (xs.getD (i * 5 + 4) undef)⟩
theorem outs_C {W : World} {A : Option Addr} {len : Nat} {xs : List Value} (y : len * 56 ≤ 140737488351232) (_ : xs.length = len * 5) (rd : Rds W A xs) (lf : ∀ (i j : Nat) (k : FK), i < len → [FK.int, FK.int, FK.int, FK.str, FK.str][j]? = some k → ∃ u, xs[i * 5 + j]? = some u ∧ leafOk k u) :
    Kd.C k36 W A len ((List.range len).map (out5 xs)) := by
  refine ⟨by simp, by omega, fun hpos => ?_⟩
  obtain ⟨u0, hu0, _⟩ := lf 0 0 _ hpos rfl
  obtain ⟨g, o, rfl, _, hc⟩ := rd.at_ hu0
  refine ⟨_, rfl, fun j p hp => ?_⟩
  rw [List.getElem?_map] at hp
  obtain ⟨q, hq, rfl⟩ := Option.map_eq_some_iff.1 hp
  obtain ⟨hql, rfl⟩ := List.getElem?_eq_some_iff.1 hq
  rw [List.length_range] at hql
  rw [List.getElem_range]
  obtain ⟨v0, e0, n0, rfl, _⟩ := lf j 0 _ hql rfl
  obtain ⟨v1, e1, n1, rfl, _⟩ := lf j 1 _ hql rfl
  obtain ⟨v2, e2, n2, rfl, _⟩ := lf j 2 _ hql rfl
  obtain ⟨v3, e3, n3, rfl, _⟩ := lf j 3 _ hql rfl
  obtain ⟨v4, e4, n4, rfl, _⟩ := lf j 4 _ hql rfl
  have ho : out5 xs j = ⟨n0, n1, ⟨n2, n3⟩, n4⟩ := by
    unfold out5
    simp only [List.getD_eq_getElem?_getD]
    rw [show j * 5 = j * 5 + 0 from rfl, e0, Nat.add_zero, e1, e2, e3, e4]
    rfl
  rw [ho]
  refine ⟨_, ?_, k36_mk W _, fun i u hu => ?_⟩
  · rfl
  · have hx : xs[j * 5 + i]? = some u := by
      match i, hu with
      | 0, hu => rw [e0]; exact hu
      | 1, hu => rw [e1]; exact hu
      | 2, hu => rw [e2]; exact hu
      | 3, hu => rw [e3]; exact hu
      | 4, hu => rw [e4]; exact hu
      | i + 5, hu => simp at hu
    have hcc : W.cell? ((⟨g, o, none⟩ : Addr).add (j * 5 + i)) = some u := by rw [addr_add]; exact hc _ _ hx
    exact hcc

theorem outs_sizes {len : Nat} {xs : List Value} (lf : ∀ (i j : Nat) (k : FK), i < len → [FK.int, FK.int, FK.int, FK.str, FK.str][j]? = some k → ∃ u, xs[i * 5 + j]? = some u ∧ leafOk k u) :
    ∀ o ∈ ((List.range len).map (out5 xs)).map toV, o.data.size ≤ maxLen ∧ o.text.size ≤ maxLen := fun o ho => by
  rw [List.map_map, List.mem_map] at ho
  obtain ⟨j, hj, rfl⟩ := ho
  have hql := List.mem_range.1 hj
  obtain ⟨v3, e3, n3, rfl, h3⟩ := lf j 3 _ hql rfl
  obtain ⟨v4, e4, n4, rfl, h4⟩ := lf j 4 _ hql rfl
  show (strOf (xs.getD (j * 5 + 3) undef)).size ≤ maxLen ∧ (strOf (xs.getD (j * 5 + 4) undef)).size ≤ maxLen
  rw [List.getD_eq_getElem?_getD, List.getD_eq_getElem?_getD, e3, e4]
  exact ⟨h3, h4⟩
theorem audit_n (A : Option Addr) (n c : Nat) (l : List OutV) (hn : l.length = n) (hc : n ≤ c) (h60 : n ≤ 100) (hs : ∀ o ∈ l, o.text.size ≤ 1000) (w : World) (hl : OutsAt w A l) :
    Calls Try.prog 10 #[.slice A n c] w fun e w' => e = .returned (.tuple #[.int .i64 (auditFrom rightV 0 st0 l).1, .int .i64 (auditFrom rightV 0 st0 l).2]) ∧ Below w.heap.size w w' := by
  subst hn
  exact audit_any A c l hc h60 hs w hl
/-- uint(x) % uint(n + 1). -/
theorem modn (x : Int) (n : Nat) (hn : n ≤ 100) : ∃ m : Nat, m ≤ n ∧ (IntKind.u64.wrap x).tmod ((n : Int) + 1) = m := by
  have h0 : 0 ≤ IntKind.u64.wrap x := by rw [IntKind.wrap_u64]; exact Int.emod_nonneg _ (by decide)
  rw [Int.tmod_eq_emod_of_nonneg h0]
  have := Int.emod_nonneg (IntKind.u64.wrap x) (show (n : Int) + 1 ≠ 0 by omega)
  have := Int.emod_lt_of_pos (IntKind.u64.wrap x) (show (0 : Int) < (n : Int) + 1 by omega)
  exact ⟨((IntKind.u64.wrap x) % ((n : Int) + 1)).toNat, by omega, by omega⟩
set_option maxRecDepth 100000 in
set_option maxHeartbeats 4000000 in
theorem walk_WatchAudit (W : World) (a0 : Option Addr) (len0 cap0 : Nat) (u0 : len0 ≤ cap0) (_ : cap0 ≤ maxLen) (y0 : len0 * 56 ≤ 140737488351232) (xs : List Value) (l0 : xs.length = len0 * 5)
    (rd : Rds W a0 xs) (lf : ∀ (i j : Nat) (k : FK), i < len0 → [FK.int, FK.int, FK.int, FK.str, FK.str][j]? = some k → ∃ u, xs[i * 5 + j]? = some u ∧ leafOk k u) (a1 : Int) (_ : (Lit.int .i64 a1).wf = true) :
    Calls Try.prog 3 #[.slice a0 len0 cap0, .int .i64 a1] W fun e W' => e = .returned (.bool true) ∧ Below W.heap.size W W' := by
  have hC := outs_C y0 l0 rd lf
  have hOz : OutsAt W a0 (((List.range len0).map (out5 xs)).map toV) := OutsAt.of_C (by
    rw [show ((List.range len0).map (out5 xs)).length = len0 by simp]; exact hC)
  have hsz := outs_sizes lf
  obtain ⟨zs, hzs⟩ : ∃ zs, ((List.range len0).map (out5 xs)).map toV = zs := ⟨_, rfl⟩
  have hzl : zs.length = len0 := by rw [← hzs]; simp
  rw [hzs] at hOz hsz
  clear rd lf hzs l0 xs hC
  subst hzl
  have HC := Lib.hid hOz
  have HZ := Lib.hid hsz
  clear hOz hsz
  go_enter Try.func3, Try.ntmps3
  go_wp2_with fail
  refine (lives_any _).mono ?_
  rintro e w1 ⟨rfl, b1⟩
  have B1 := Lib.hid b1; clear b1
  go_wp2_with fail
  refine (few_any w1 a0 zs cap0 HZ.out y0 (HC.out.below B1.out)).mono ?_
  rintro e w2 ⟨Aa, ca, l, rfl, hka, hal, hsm, hO, b2⟩
  have B2 : Hid (Below W.heap.size W w2) := Lib.hid (B1.out.trans (b2.mono B1.out.size))
  have HO := Lib.hid hO
  have HS := Lib.hid hsm
  clear hO hsm b2 B1 HC HZ
  go_wp2_with fail
  refine (audit_n Aa l.length ca l rfl hka (by omega) HS.out w2 HO.out).mono ?_
  rintro e w3 ⟨rfl, b3⟩
  have B3 : Hid (Below W.heap.size W w3) := Lib.hid (B2.out.trans (b3.mono B2.out.size))
  have HO3 := Lib.hid (HO.out.below b3)
  clear b3 HO B2
  obtain ⟨k, hk, ek⟩ := modn a1 l.length (by omega)
  have ew : IntKind.u64.wrap ((l.length : Int) + 1) = (l.length : Int) + 1 := by rw [IntKind.wrap_u64]; omega
  have hz := audit_zero rightV l 0 st0
  have hin := audit_in rightV l 0 st0
  have htk := audit_take rightV l k 0 st0
  have tl : (l.take k).length = k := by rw [List.length_take]; omega
  obtain ⟨n, hn⟩ : ∃ n, (auditFrom rightV 0 st0 l).1 = n := ⟨_, rfl⟩
  obtain ⟨er, her⟩ : ∃ er, (auditFrom rightV 0 st0 l).2 = er := ⟨_, rfl⟩
  have hp : auditFrom rightV 0 st0 l = (n, er) := by rw [← hn, ← her]
  rw [hp] at hz hin htk ⊢
  dsimp only at hz hin htk ⊢
  have AT := Lib.hid (audit_n Aa k ca (l.take k) tl (by omega) (by omega) (fun o ho => HS.out o (List.mem_of_mem_take ho)) w3 (HO3.out.take k))
  clear hn her hp HS HO3 tl
  by_cases h0 : er = 0
  · obtain rfl := hz h0
    rw [if_neg (fun e => e.1 h0)] at htk
    rw [htk] at AT
    subst h0
    clear htk hin hz
    go_wp2_with fail
    refine AT.out.mono ?_
    rintro e w4 ⟨rfl, b4⟩
    have B4 : Hid (Below W.heap.size W w4) := Lib.hid (B3.out.trans (b4.mono B3.out.size))
    clear b4 B3 AT
    go_wp2_with fail
    go_ret
    exact ⟨rfl, B4.out⟩
  · obtain ⟨hn0, hn1⟩ := hin h0
    have t1 : (er == 0) = false := beq_eq_false_iff_ne.2 h0
    have hn0' : 0 ≤ n := by omega
    have hn1' : n < (l.length : Int) := by omega
    clear hin hz hn0 hn1
    by_cases hkn : n < (k : Int)
    · rw [if_pos ⟨h0, by omega⟩] at htk
      rw [htk] at AT
      clear htk
      go_wp2_with fail
      refine AT.out.mono ?_
      rintro e w4 ⟨rfl, b4⟩
      have B4 : Hid (Below W.heap.size W w4) := Lib.hid (B3.out.trans (b4.mono B3.out.size))
      clear b4 B3 AT
      have t2 : (n == n) = true := beq_self_eq_true n
      have t3 : (er == er) = true := beq_self_eq_true er
      go_wp2_with fail
      go_ret
      exact ⟨rfl, B4.out⟩
    · rw [if_neg (fun e => by have := e.2; omega)] at htk
      rw [htk] at AT
      clear htk
      go_wp2_with fail
      refine AT.out.mono ?_
      rintro e w4 ⟨rfl, b4⟩
      have B4 : Hid (Below W.heap.size W w4) := Lib.hid (B3.out.trans (b4.mono B3.out.size))
      clear b4 B3 AT
      have hkn' : (k : Int) ≤ n := by omega
      go_wp2_with fail
      go_ret
      exact ⟨rfl, B4.out⟩
end Go.Proofs.Ytghjhcobmbobcaa.Wt
