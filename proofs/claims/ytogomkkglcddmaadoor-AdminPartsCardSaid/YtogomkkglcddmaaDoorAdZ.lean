/- AdminParts returns true, for all texts: its walk. -/
import Derived.Test.YtogomkkglcddmaaDoorAdY
namespace Go.Proofs.YtogomkkglcddmaaDoor.Ad
open Go.RowKit Go.Proofs.YtogomkkglcddmaaDoor Go.Proofs.YtogomkkglcddmaaDoor.Nm Go.Proofs.YtogomkkglcddmaaDoor.Cf
attribute [local go_sem ↓ high] exec_cat
attribute [local go_sem] strOf_str
theorem exec_cat_l (a : Act) (dst : Option Tmp) (y : Operand) (k : ByteArray) (ty : TypeId) (pos : String) (aft : Array _) (g : Option _) (w : World) (hy : a.eval y = .string (strOf (a.eval y))) (hs : catOk k (strOf (a.eval y))) :
    (execOp a.eval { dst := dst, op := .binOp .add 9 (.const (.string k)) y 9, type := ty, pos := pos, after := aft, guard := g }).run Tryd.prog w = .ok (.value (.string (k ++ strOf (a.eval y)))) w :=
  exec_cat a.eval dst (.const (.string k)) y ty pos aft g w rfl hy hs
attribute [local go_sem ↓ high] exec_cat_k exec_cat_l
theorem B_trans' {w w1 w2 : World} (h : Below w.heap.size w w1) (h' : B w1 w2) : Below w.heap.size w w2 := h.trans (h'.mono h.size)
def probe (y : ByteArray) : ByteArray := (⟨#[104, 32]⟩ ++ y) ++ ⟨#[32, 48, 32, 48, 32, 48]⟩
theorem probe_list (y : ByteArray) : probe y = bs ([104, 32] ++ (y.data.toList ++ [32, 48, 32, 48, 32, 48])) := by
  rw [← of_bs (probe y)]
  unfold probe
  simp [ByteArray.data_append]
theorem probe_hit {k : Nat} (hk : k < 4) {y : ByteArray} (h : statesL.getD k e0 = y) : ((rowV hB (k : Int) [0, 0, 0]).toList == (probe y).toList) = true := by
  rw [probe_list, (probe_iff hk y).2 h]
  exact beq_self_eq_true _
theorem probe_miss {k : Nat} (hk : k < 4) {y : ByteArray} (h : statesL.getD k e0 ≠ y) : ((rowV hB (k : Int) [0, 0, 0]).toList == (probe y).toList) = false := by
  rw [probe_list]
  exact (Lib.bytes_beq_false_iff _ _).2 fun e => h ((probe_iff hk y).1 e)
set_option maxRecDepth 100000 in
set_option maxHeartbeats 4000000 in
theorem partsl_walk (w : World) (s0 s : ByteArray) (m : Int) (hv : Vars w)
    (hmin : ∀ W ats ty, (Builtin.min_ ats ty #[.int .i64 (s0.size : Int), .int .i64 100]).run Tryd.prog W = .ok (.int .i64 m) W) (hsl : ∀ W, (Instr.slice 9 (.string s0) none (some (.int .i64 m)) none).run Tryd.prog W = .ok (.string s) W)
    (hss : s.size ≤ 100) (x y : ByteArray) (hy : y.size ≤ 100)
    (hr : (partsV s = none ∧ x = ⟨#[]⟩ ∧ y = ⟨#[]⟩) ∨ ∃ a b c, partsV s = some (x, y, [a, b, c]) ∧ x.size ≤ 1000 ∧ (Lit.int .i64 a).wf = true ∧ (Lit.int .i64 b).wf = true ∧ (Lit.int .i64 c).wf = true ∧ Hid (rowV x (kOf y) [a, b, c] = s)) :
    Calls Tryd.prog 13 #[.string s0] w fun e w' => e = .returned (.bool true) ∧ Below w.heap.size w w' := by
  have HL := Lib.hid (lives_any w (varsB hv))
  have HV := Lib.hid hv
  have HP := Lib.hid (fun W h => parts_any s (by omega) W h)
  have HQ := Lib.hid (fun W => refparts_any s (by omega) W)
  have HRR := Lib.hid (fun (k : Nat) W => refrow_any hB (k : Int) 0 0 0 (by decide) (by decide) (by decide) (by decide) W)
  have z1 : catOk ⟨#[104, 32]⟩ y := by unfold catOk; show 2 + y.size ≤ _; omega
  have z2 : catOk (⟨#[104, 32]⟩ ++ y) ⟨#[32, 48, 32, 48, 32, 48]⟩ := by unfold catOk; rw [ByteArray.size_append]; show 2 + y.size + 6 ≤ _; omega
  have HR0 := Lib.hid (kRound_0 y)
  have HR4 := Lib.hid (kRound_4 y)
  have HHIT := Lib.hid (fun k hk h => kRound_hit (x := y) (k := k) hk h)
  have HMISS := Lib.hid (fun k hk h => kRound_miss (x := y) (k := k) hk h)
  have HPH := Lib.hid (fun k hk h => probe_hit (k := k) hk (y := y) h)
  have HPM := Lib.hid (fun k hk h => probe_miss (k := k) hk (y := y) h)
  unfold probe hB at HPH HPM
  unfold hB at HRR
  have t1 : (x.toList != x.toList) = false := by simp
  have t2 : (y.toList != y.toList) = false := by simp
  have hbs : bs [104] = ⟨#[104]⟩ := rfl
  rw [hbs] at HRR HPH HPM
  clear hv hss hy hbs
  rcases hr with ⟨hr, rfl, hy0⟩ | ⟨a, b, c, hr, hx, ha, hbw, hcw, HROW⟩
  all_goals
    rw [hr] at HP HQ
    unfold PartsPost at HP HQ
    dsimp only at HP HQ
    clear hr
    go_enter Tryd.func13, Tryd.ntmps13
    go_wp2_with fail
    refine HL.out.mono ?_
    rintro e w1 ⟨rfl, b1⟩
    have B1 := Lib.hid b1
    clear b1
    go_wp2_with fail
    refine (HP.out _ (HV.out.below B1.out)).mono ?_
  · rintro e w4 ⟨b4, rfl⟩
    have B4 := Lib.hid (B1.out.trans (b4.mono B1.out.size))
    clear b4
    go_wp2_with fail
    refine (HQ.out _).mono ?_
    rintro e w5 ⟨b5, rfl⟩
    have B5 := Lib.hid (B4.out.trans (b5.mono B4.out.size))
    clear b5
    rw [← hy0]
    clear hy0
    go_wp2_with fail
    refine (same_nil _).mono ?_
    rintro e w6 ⟨rfl, rfl⟩
    go_wp2_with fail
    rename World => w0x
    go_loopw [11, 12] (fun kv i wr => ∃ k : Nat, k ≤ 4 ∧ kv = .int .i64 (kRound y k) ∧ i = .int .i64 k ∧ B w0x wr) (fun _ i _ => 4 - (intOf i).toNat)
    case atStart => exact ⟨0, Nat.zero_le _, by rw [HR0.out], rfl, B_refl _⟩
    case round =>
      obtain ⟨k, hk, rfl, rfl, hb⟩ := hrel
      by_cases hlt : k < 4
      · have hk4 : (k : Int) < 4 := by omega
        have HBK := Lib.hid hb
        have HRK := Lib.hid (fun W => HRR.out k W)
        clear hb
        by_cases hit : statesL.getD k e0 = y
        · have HE := Lib.hid (HHIT.out k hlt hit)
          have hq := HPH.out k hlt hit
          generalize rowV ⟨#[104]⟩ (k : Int) [0, 0, 0] = rr at *
          clear hit
          go_wp2_with fail
          refine (HRK.out _).mono ?_
          rintro e w7 ⟨rfl, b7⟩
          have B7 := Lib.hid (HBK.out.trans (b7.mono HBK.out.size))
          clear b7
          go_wp2_with fail
          go_roundw
          case rel => exact ⟨k + 1, by omega, by rw [HE.out], by push_cast; rfl, B7.out⟩
          case measure => simp [intOf]; omega
        · have HE := Lib.hid (HMISS.out k hlt hit)
          have hq := HPM.out k hlt hit
          generalize rowV ⟨#[104]⟩ (k : Int) [0, 0, 0] = rr at *
          clear hit
          go_wp2_with fail
          refine (HRK.out _).mono ?_
          rintro e w7 ⟨rfl, b7⟩
          have B7 := Lib.hid (HBK.out.trans (b7.mono HBK.out.size))
          clear b7
          go_wp2_with fail
          go_roundw
          case rel => exact ⟨k + 1, by omega, by rw [HE.out], by push_cast; rfl, B7.out⟩
          case measure => simp [intOf]; omega
      · obtain rfl : k = 4 := by omega
        have HBW := Lib.hid (B5.out.trans (hb.mono B5.out.size))
        clear hb
        go_wp2_with fail
        go_quiet (fail)
        go_wp2_with fail
        go_ret
        exact ⟨rfl, by first | exact HBW.out | exact HBW.out.drew | exact below_drewN' HBW.out _⟩
  · rintro e w4 ⟨b4, A, cc, rfl, hcc, hn4, hown4⟩
    have B4 := Lib.hid (B1.out.trans (b4.mono B1.out.size))
    clear b4
    have HN4 := Lib.hid hn4
    clear hn4 hown4
    go_wp2_with fail
    refine (HQ.out _).mono ?_
    rintro e w5 ⟨b5, A', cc', rfl, hcc', hn5, hown5⟩
    have B5 := Lib.hid (B4.out.trans (b5.mono B4.out.size))
    have hn45 := HN4.out.below b5
    have HN5 := Lib.hid hn45
    have HSM := Lib.hid (same_nums A A' cc cc' 3 [a, b, c] rfl (by decide) hcc hcc' w5 hn45 hn5)
    clear b5 hn5 hown5 hn45 HN4
    go_wp2_with fail
    refine HSM.out.mono ?_
    rintro e w6 ⟨rfl, b6⟩
    have B6 := Lib.hid (B5.out.trans (b6.mono B5.out.size))
    have HN6 := Lib.hid (HN5.out.below b6)
    clear b6
    go_wp2_with fail
    rename World => w0x
    go_loopw [11, 12] (fun kv i wr => ∃ k : Nat, k ≤ 4 ∧ kv = .int .i64 (kRound y k) ∧ i = .int .i64 k ∧ B w0x wr) (fun _ i _ => 4 - (intOf i).toNat)
    case atStart => exact ⟨0, Nat.zero_le _, by rw [HR0.out], rfl, B_refl _⟩
    case round =>
      obtain ⟨k, hk, rfl, rfl, hb⟩ := hrel
      by_cases hlt : k < 4
      · have hk4 : (k : Int) < 4 := by omega
        have HBK := Lib.hid hb
        have HRK := Lib.hid (fun W => HRR.out k W)
        clear hb
        by_cases hit : statesL.getD k e0 = y
        · have HE := Lib.hid (HHIT.out k hlt hit)
          have hq := HPH.out k hlt hit
          generalize rowV ⟨#[104]⟩ (k : Int) [0, 0, 0] = rr at *
          clear hit
          go_wp2_with fail
          refine (HRK.out _).mono ?_
          rintro e w7 ⟨rfl, b7⟩
          have B7 := Lib.hid (HBK.out.trans (b7.mono HBK.out.size))
          clear b7
          go_wp2_with fail
          go_roundw
          case rel => exact ⟨k + 1, by omega, by rw [HE.out], by push_cast; rfl, B7.out⟩
          case measure => simp [intOf]; omega
        · have HE := Lib.hid (HMISS.out k hlt hit)
          have hq := HPM.out k hlt hit
          generalize rowV ⟨#[104]⟩ (k : Int) [0, 0, 0] = rr at *
          clear hit
          go_wp2_with fail
          refine (HRK.out _).mono ?_
          rintro e w7 ⟨rfl, b7⟩
          have B7 := Lib.hid (HBK.out.trans (b7.mono HBK.out.size))
          clear b7
          go_wp2_with fail
          go_roundw
          case rel => exact ⟨k + 1, by omega, by rw [HE.out], by push_cast; rfl, B7.out⟩
          case measure => simp [intOf]; omega
      · obtain rfl : k = 4 := by omega
        rw [HR4.out]
        have HBW := Lib.hid (B6.out.trans (hb.mono B6.out.size))
        have hn7 := HN6.out.below hb
        obtain ⟨g, o, rfl, e0⟩ := hn7 0 a rfl
        obtain ⟨g1, o1, hA1, e1⟩ := hn7 1 b rfl
        cases hA1
        obtain ⟨g2, o2, hA2, e2⟩ := hn7 2 c rfl
        cases hA2
        have hgl := World.block_lt_of_cell? wr _ e0
        have HROW2 := Lib.hid (fun W h => row_any x (kOf y) a b c hx ha hbw hcw W h)
        rw [HROW.out] at HROW2
        have hss : (s.toList == s.toList) = true := beq_self_eq_true _
        have HKS := Lib.hid (fun (W : World) (hb : B wr W) => (⟨⟨(hb.cell (p := ⟨g, o + 0, none⟩) hgl).trans e0, (hb.cell (p := ⟨g, o + 1, none⟩) hgl).trans e1, (hb.cell (p := ⟨g, o + 2, none⟩) hgl).trans e2⟩, hb⟩ :
          (W.cell? ⟨g, o, none⟩ = some (.int .i64 a) ∧ W.cell? ⟨g, o + 1, none⟩ = some (.int .i64 b) ∧ W.cell? ⟨g, o + 2, none⟩ = some (.int .i64 c)) ∧ B wr W))
        have hb0 : B wr wr := B_refl wr
        clear e0 e1 e2 hgl hn7 hb
        generalize kOf y = kk at *
        go_wp2_with fail
        go_region_held3 (fun W => (W.cell? ⟨g, o, none⟩ = some (.int .i64 a) ∧ W.cell? ⟨g, o + 1, none⟩ = some (.int .i64 b) ∧ W.cell? ⟨g, o + 2, none⟩ = some (.int .i64 c)) ∧ B wr W) ((refine HKS.out _ ?_; (repeat (first | assumption | exact B_refl _ | refine B_drewN ?_ _ | refine B_drew ?_ | refine B_alloc ?_ _ | refine B_setCell ?_ (by first | (simp; done) | (simp; omega)) _ | refine B_trans ?_ (by assumption))))) ((go_at_call 36; refine (HROW2.out _ (varsB (HV.out.below (B_trans' HBW.out (by (repeat (first | assumption | exact B_refl _ | refine B_drewN ?_ _ | refine B_drew ?_ | refine B_alloc ?_ _ | refine B_setCell ?_ (by first | (simp; done) | (simp; omega)) _ | refine B_trans ?_ (by assumption)))))))).mono ?_; rintro e w8 ⟨rfl, b8⟩; have bb8 : B wr w8 := B_trans (by (repeat (first | assumption | exact B_refl _ | refine B_drewN ?_ _ | refine B_drew ?_ | refine B_alloc ?_ _ | refine B_setCell ?_ (by first | (simp; done) | (simp; omega)) _ | refine B_trans ?_ (by assumption)))) b8; clear b8))
        all_goals go_wp2_with fail
        all_goals go_ret
        all_goals exact ⟨rfl, HBW.out.trans (bb8.mono HBW.out.size)⟩
theorem walk_AdminParts (w : World) (s0 : ByteArray) (_h0 : s0.size ≤ maxLen) (hv : Vars w) :
    Calls Tryd.prog 13 #[.string s0] w fun e w' => e = .returned (.bool true) ∧ Below w.heap.size w w' := by
  obtain ⟨m, s, hmin, hsl, hs⟩ := cut_facts2 100 s0
  cases hp : partsV s with
  | none => exact partsl_walk w s0 s m hv hmin hsl hs ⟨#[]⟩ ⟨#[]⟩ (by decide) (.inl ⟨hp, rfl, rfl⟩)
  | some r =>
    obtain ⟨x, y, d⟩ := r
    obtain ⟨h1, h2, h3, _, h5⟩ := partsV_some hp
    have hrow := parts_row hp
    have hys := cutV_mem (c := 32) (s := s) (x := y) (by rw [h1]; simp)
    have hx := (name_clean h3).2.1
    match d, h2 with
    | [a, b, c], _ =>
      have ha := h5 a (by simp)
      have hb := h5 b (by simp)
      have hc := h5 c (by simp)
      exact partsl_walk w s0 s m hv hmin hsl hs x y (by omega) (.inr ⟨a, b, c, hp, by omega, wf_of (by omega), wf_of (by omega), wf_of (by omega), Lib.hid hrow⟩)
end Go.Proofs.YtogomkkglcddmaaDoor.Ad
