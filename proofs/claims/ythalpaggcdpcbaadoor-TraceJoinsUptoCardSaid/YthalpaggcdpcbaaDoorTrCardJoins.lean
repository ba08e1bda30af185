/- The card of TraceJoins, where what it reads is of bulk at most 1048576: for all such arguments it returns true and leaves them as they were; the library's tables as the program's text lays them. -/
import Derived.Test.YthalpaggcdpcbaaDoorRows
import Derived.Test.YthalpaggcdpcbaaDoorCards
import Derived.Test.YthalpaggcdpcbaaDoorTie
import Derived.Test.YthalpaggcdpcbaaDoorTrOf
import Derived.Test.YthalpaggcdpcbaaDoorOpen
import Derived.Test.YthalpaggcdpcbaaDoorOpB
import Derived.Deep.DeepHandedRow
import Derived.WalkKit
import Derived.ProofKit
import Derived.OpenShut
import Derived.ShutString
import Derived.ChangeOld
import Derived.SliceStrings
import Derived.PinnedBridge
import Derived.Lay
import Derived.LaidOnce
import Derived.SevenTiedAt
import Derived.Stop.LaidErr
namespace Go.Proofs.YthalpaggcdpcbaaDoor.traceJoins
open Go.ChangeShapes Go.WideShapes Go.ChangeAt Go.RowKit
open Go.ChangeMaps (open_string shut_string)
theorem own : ownKnob Tryd.prog.godebug = none := by kernel_rfl
theorem laidOut : laidOutB Tryd.prog = true := by kernel_rfl
theorem vars (W : World) (hsh : W.ShapedOpen Tryd.prog) (hL0 : laidMetH Tryd.prog Rows.traceJoinsUptoRow.laid W) : Nm.VarsC W := by
  have h0 : laidMet Tryd.prog Rows.traceJoinsUptoRow.laid W := by rw [← MakeChecks.laidMetH_plain _ _ _ (by kernel_rfl)]; exact hL0
  have h1 := laidMet.tail h0
  have h2 := laidMet.tail h1
  have htab : Lib.TabIs Tryd.prog W "internal/strconv.uint64pow10" .u64 Lib.pow10Tab := Lib.tabIs_of_head (g := 1) (t := 104) (e := 89) (by kernel_rfl) (by kernel_rfl) Tryd.underlying104 Tryd.underlying89 (by kernel_rfl) (by kernel_rfl) h2
  exact htab
theorem flatB_Frame : FlatB Tryd.prog 25 :=
  FlatB.struct Tryd.underlying25 (n := 2) (by kernel_rfl) fun i hi => by
    match i, hi with
    | 0, _ => exact ⟨0, _, rfl, Nat.le_refl _, (by decide +kernel), FlatB.int Tryd.underlying3⟩
    | 1, _ => exact ⟨1, _, rfl, (by decide), (by decide +kernel), FlatB.str Tryd.underlying9⟩
theorem flatB_Out : FlatB Tryd.prog 27 :=
  FlatB.struct Tryd.underlying27 (n := 5) (by kernel_rfl) fun i hi => by
    match i, hi with
    | 0, _ => exact ⟨0, _, rfl, Nat.le_refl _, (by decide +kernel), FlatB.int Tryd.underlying3⟩
    | 1, _ => exact ⟨1, _, rfl, (by decide), (by decide +kernel), FlatB.int Tryd.underlying3⟩
    | 2, _ => exact ⟨2, _, rfl, (by decide), (by decide +kernel), flatB_Frame⟩
    | 3, _ => exact ⟨2, _, rfl, (by decide), (by decide +kernel), flatB_Frame⟩
    | 4, _ => exact ⟨3, _, rfl, (by decide), (by decide +kernel), FlatB.str Tryd.underlying9⟩
theorem laid_met (os : Os) : laidMet Tryd.prog Rows.traceJoinsUptoRow.laid ((World.laidAll Tryd.prog os Rows.traceJoinsUptoRow.laid).forCall (fun _ _ => 0) ⟨#[], #[.slice none 0 0, .slice none 0 0], []⟩).memory :=
  laidMet_laidAll _ (by kernel_rfl) (by kernel_rfl)
theorem reads (os : Os) {H : Type} (enc : TypeId × Value → H) : ∃ places, DataW.whole enc Tryd.prog ((World.laidAll Tryd.prog os Rows.traceJoinsUptoRow.laid).forCall (fun _ _ => 0) ⟨#[], #[.slice none 0 0, .slice none 0 0], []⟩).memory Tryd.f4.params.toList Rows.traceJoinsSpec.vars false #[Value.slice none 0 0, .slice none 0 0].toList 8 = some ([.nil, .nil], [], places) :=
  ⟨[], by kernel_rfl⟩
set_option maxRecDepth 100000 in
theorem lifted (os : Os) (started : os.Started) (H : Type) (enc : TypeId × Value → H) (F : Stop.Interp) :
    ReturnsInHanded {} Tryd.checked os 4 .any ((Rows.OpenSpec.upto Rows.traceJoinsSpec).preRow enc Tryd.prog Tryd.f4 Rows.traceJoinsUptoRow.domain false Rows.traceJoinsUptoRow.laid) (((Rows.OpenSpec.upto Rows.traceJoinsSpec).at F).post enc Tryd.prog Tryd.f4 false true false false) := by
  obtain ⟨places, hx⟩ := reads os enc
  refine returnsInHanded_of_row (C := Tryd.checked) (s := Rows.OpenSpec.upto Rows.traceJoinsSpec) own started (by kernel_rfl) Tryd.func4
    (witness_row_at (enc := enc) (C := Tryd.checked) false (World.laidAll Tryd.prog os Rows.traceJoinsUptoRow.laid) #[.slice none 0 0, .slice none 0 0] (World.laidAll_os _ _ _) (by kernel_rfl) (by kernel_rfl) (by kernel_rfl)
      (OpenSpec.preRow_of_cond 8 hx (by kernel_rfl) (fun k hk => by cases hk; kernel_rfl) (by kernel_rfl) (laid_met os))) ?_
  intro W base args ds gs before hval0 hW _ hcond hsz0 hL hsh _
  have hbulk := bulk_bound (hcond _ rfl)
  have hsz : (DataW.weightsEach Tryd.prog (Tryd.f4.params.toList ++ Rows.traceJoinsSpec.plain.varTypes Tryd.prog) (ds ++ gs)).all (· ≤ reachBytes) = true := hsz0
  have hval : ∀ (j : Nat) t v, Tryd.f4.params[j]? = some t → args[j]? = some v → Value.okWide Tryd.prog W .any base t v := hval0
  have hW' := hW
  obtain ⟨p, q, hA0, hV, rfl, hfz, hnd⟩ := hW
  have hA : DataW.TrodAll enc Tryd.prog W 0 (fun _ => true) true Tryd.f4.params.toList args.toList ds p := hA0
  rw [Tryd.params4] at hA hval hsz
  have hv := vars W hsh hL
  obtain ⟨v0, vs0, d0, ds0, p0, q0, hargs, rfl, rfl, h0, r0⟩ := trodAll_cons hA
  obtain ⟨v1, vs1, d1, ds1, p1, q1, rfl, rfl, rfl, h1, r1⟩ := trodAll_cons r0
  obtain ⟨rfl, rfl, rfl⟩ := trodAll_nil r1
  obtain rfl : args = #[v0, v1] := by cases args; simp_all
  obtain ⟨rfl, rfl⟩ := trodVars_none hV
  have k0 := h0
  have lt0 : ∀ x ∈ p0, x.block < W.heap.size := by obtain ⟨m, hm⟩ := k0; exact DataW.trod_lt m _ _ _ hm
  obtain ⟨a0, len0, cap0, rfl⟩ := okWide_slice Tryd.underlying22 (hval 0 22 v0 rfl rfl)
  obtain ⟨u0, m0, ⟨el0, sp0, z0⟩, xs0, l0, rd0, lf0⟩ := open_flats (ks := [.int, .int, .int, .str, .str]) Tryd.underlying22 Tr.flat_Out (by kernel_rfl) (by decide) rfl h0
  have y0 : len0 * 56 ≤ 140737488351232 := by
    rcases z0 with ⟨rfl, _, _⟩ | ⟨rfl, hel⟩
    · omega
    · have z := sized_slice hsz (j := 0) (t := 22) (e := 27) rfl rfl Tryd.underlying22
      rw [show Tryd.prog.bytesOf 27 = 56 by kernel_rfl, hel] at z
      unfold reachBytes at z
      omega
  have k1 := h1
  have lt1 : ∀ x ∈ p1, x.block < W.heap.size := by obtain ⟨m, hm⟩ := k1; exact DataW.trod_lt m _ _ _ hm
  obtain ⟨a1, len1, cap1, rfl⟩ := okWide_slice Tryd.underlying22 (hval 1 22 v1 rfl rfl)
  obtain ⟨u1, m1, ⟨el1, sp1, z1⟩, xs1, l1, rd1, lf1⟩ := open_flats (ks := [.int, .int, .int, .str, .str]) Tryd.underlying22 Tr.flat_Out (by kernel_rfl) (by decide) rfl h1
  have y1 : len1 * 56 ≤ 140737488351232 := by
    rcases z1 with ⟨rfl, _, _⟩ | ⟨rfl, hel⟩
    · omega
    · have z := sized_slice hsz (j := 1) (t := 22) (e := 27) rfl rfl Tryd.underlying22
      rw [show Tryd.prog.bytesOf 27 = 56 by kernel_rfl, hel] at z
      unfold reachBytes at z
      omega
  simp only [List.append_nil, Rows.uptoBulkAll] at hbulk
  have g0 : ∀ g o, a0 = some ⟨g, o, none⟩ → ∀ q, q < len0 * 5 → ∀ s, W.cell? ⟨g, o + q, none⟩ = some (.string s) → s.size ≤ 1048576 := fun g o e q hq s hs => by
    subst e
    have := flats_bulk Tryd.underlying22 flatB_Out (k := 5) (by kernel_rfl) (by decide) h0 q hq s hs
    omega
  have g1 : ∀ g o, a1 = some ⟨g, o, none⟩ → ∀ q, q < len1 * 5 → ∀ s, W.cell? ⟨g, o + q, none⟩ = some (.string s) → s.size ≤ 1048576 := fun g o e q hq s hs => by
    subst e
    have := flats_bulk Tryd.underlying22 flatB_Out (k := 5) (by kernel_rfl) (by decide) h1 q hq s hs
    omega
  clear hA0 hval0 hsz0 hsz
  refine (Tr.walk_TraceJoins W a0 len0 cap0 u0 xs0 rd0 lf0 g0 a1 len1 cap1 u1 xs1 rd1 lf1 g1 hv).mono fun e W' ⟨he, bel⟩ => ?_
  subst he
  exact ⟨_, rfl, _, _, _, [], _, [], hW', trodAll_mk1 (shut_bool Tryd.underlying4 _), (trodAll_cons_mk (Below.trod laidOut (by kernel_rfl) (of_decide_eq_true (by kernel_rfl)) k0 bel lt0) (trodAll_cons_mk (Below.trod laidOut (by kernel_rfl) (of_decide_eq_true (by kernel_rfl)) k1 bel lt1) trodAll_mk0)), rfl, bel.frame _, fun h => by cases h⟩
theorem holds : Rows.traceJoinsUptoRow.holds Tryd.pinned (Rows.OpenSpec.upto Rows.traceJoinsSpec) :=
  OpenClaim.holds_of_cond 4 Tryd.f4 rfl rfl rfl rfl rfl rfl rfl ⟨rfl, rfl, rfl, rfl, rfl⟩ rfl rfl rfl rfl rfl (by kernel_rfl) Tryd.func4 (by kernel_rfl)
    (of_decide_eq_true (by kernel_rfl)) (by unfold Func.isWrapper; first | (rw [if_pos (by decide +kernel)]; kernel_rfl) | (rw [if_neg (by decide +kernel)]; exact ⟨rfl, rfl⟩))
    (fun os started H enc _ F => by rw [OpenClaim.pre_eq_preRow]; exact lifted os started H enc F)
theorem card_holds : Rows.TraceJoinsUptoCardSaid :=
  Claim7.holds_tied_plain_at .later [] [.data, .data, .data] true (true, "4474758d243631ee32febbcfdaa316194278982e16dfec602d620f3a6a2c1b58") true holds (fun _ h => by cases h) (by kernel_rfl) (fun _ h => by cases h) traceJoinsUpto_row_tie rfl ⟨rfl, rfl⟩ (by kernel_rfl) rfl
    (fun f fn hf hfn => by
      obtain rfl : f = 4 := Option.some.inj ((show Tryd.prog.funcNamed Rows.traceJoinsUptoRow.func = some 4 by kernel_rfl).symm.trans hf) |>.symm
      obtain rfl : fn = Tryd.f4 := (Option.some.inj (Tryd.func4.symm.trans hfn)).symm
      exact ⟨by kernel_rfl, fun j t ht => by
        rw [Tryd.params4] at ht
        have hm : t ∈ [22, 22] := by simpa using Array.mem_of_getElem? ht
        have hall : ([22, 22].all fun u => !Tryd.prog.wantsStandIn u) = true := by kernel_rfl
        exact (show Tryd.prog.wantsStandIn t = false by simpa using List.all_eq_true.1 hall t hm)⟩)
    (by kernel_rfl)
#print axioms card_holds
end Go.Proofs.YthalpaggcdpcbaaDoor.traceJoins
namespace Go.Proofs.YthalpaggcdpcbaaDoor
/-- The card, under a short name, for the claim. -/
theorem traceJoinsUpto_card : Rows.TraceJoinsUptoCardSaid := traceJoins.card_holds
end Go.Proofs.YthalpaggcdpcbaaDoor
