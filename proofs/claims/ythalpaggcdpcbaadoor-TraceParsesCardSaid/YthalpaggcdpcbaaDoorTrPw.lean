/- TraceParses. -/
import Derived.Test.YthalpaggcdpcbaaDoorTrK
import Derived.Test.YthalpaggcdpcbaaDoorTrS
import Derived.Test.YthalpaggcdpcbaaDoorTrW
import Derived.Test.YthalpaggcdpcbaaDoorOpen
namespace Go.Proofs.YthalpaggcdpcbaaDoor.Tr
open Go.RowKit Go.Proofs.YthalpaggcdpcbaaDoor Go.Proofs.YthalpaggcdpcbaaDoor.Nm Go.Proofs.YthalpaggcdpcbaaDoor.Cf
attribute [local go_sem high] eqOut
set_option maxRecDepth 100000 in
set_option maxHeartbeats 8000000 in
theorem walk_TraceParses (w : World) (s0 : ByteArray) (_hs : s0.size ≤ maxLen) (hv : Vars w) :
    Calls Tryd.prog 7 #[.string s0] w fun e w' => e = .returned (.bool true) ∧ Below w.heap.size w w' := by
  obtain ⟨m, s, hmin, hsl, hs⟩ := cut_facts2 150 s0
  replace hmin : ∀ W ats ty, (Builtin.min_ ats ty #[.int .i64 (s0.size : Int), .int .i64 150]).run Tryd.prog W = .ok (.int .i64 m) W := hmin
  have HL := Lib.hid (fun W h => lives_any W h)
  have HP := Lib.hid (fun W h => parse_any s (by omega) W h)
  unfold ParsePost outArg at HP
  have HQ := Lib.hid (fun W => refparse_any s (by omega) W)
  unfold RefParse outArg at HQ
  have HU := Lib.hid (fun W => unescape_any s (by omega) W)
  have HRU := Lib.hid (fun W => refunescape_any s (by omega) W)
  unfold UnPost at HU HRU
  have HE := Lib.hid (fun W => escape_any s (by omega) W)
  have HRE := Lib.hid (fun W => refescape_any s (by omega) W)
  have HSAME := Lib.hid (fun p q hp hq => ref_same (l := s) (p := p) (q := q) hp hq)
  obtain ⟨uv, uc, huv⟩ : ∃ uv uc, unescV s = (uv, uc) := ⟨_, _, rfl⟩
  rw [huv] at HU HRU
  generalize escV s = ev at *
  have HV := Lib.hid hv
  have HB0 := Lib.hid (B_refl w)
  clear hv hs huv _hs
  dsimp only at HU HRU
  go_enter Tryd.func7, Tryd.ntmps7
  go_wp2_with fail
  refine (HL.out _ (VarsC.below HV.out.tab HB0.out)).mono ?_
  rintro e w1 ⟨rfl, b1⟩
  have B1 := Lib.hid (show B w w1 from b1)
  clear b1 HL
  go_wp2_with fail
  refine (HP.out _ (HV.out.below (by repeat (first | with_reducible exact B1.out | refine B_drew ?_ | refine B_drewN ?_ _)))).mono ?_
  rintro e w2 ⟨o1, hc1, rfl, b2⟩
  have B2 := Lib.hid (show B w w2 from (B_trans (by first | exact B1.out | exact B_drew B1.out | exact B_drewN B1.out _) b2))
  have HS1 := Lib.hid (fun q hq => HSAME.out o1 q hc1 hq)
  clear b2 hc1 HP HSAME B1
  generalize parseA s o1 = R at *
  obtain ⟨⟨pk, pi, pf, pd, pt⟩, pc⟩ := R
  dsimp only
  have HA1 := Lib.hid (Blk.new w2 27 #[.int .i64 pk, .int .i64 pi, .int .i64 pf, .string pd, .string pt])
  have HB1 := Lib.hid (B_alloc B2.out (.cells #[.int .i64 pk, .int .i64 pi, .int .i64 pf, .string pd, .string pt] 27))
  go_wp2_with fail
  refine (HQ.out _).mono ?_
  rintro e w3 ⟨o2, hc2, rfl, b3⟩
  rw [← HS1.out o2 hc2]
  have B3 := Lib.hid (show B w w3 from (B_trans (by first | exact HB1.out | exact B_drew HB1.out | exact B_drewN HB1.out _) b3))
  have HA3 := Lib.hid (HA1.out.b b3)
  clear b3 hc2 HQ HS1 HA1 HB1 B2
  generalize w2.heap.size = q at *
  dsimp only
  have HC3 := Lib.hid (Blk.new w3 27 #[.int .i64 pk, .int .i64 pi, .int .i64 pf, .string pd, .string pt])
  have HA4 := Lib.hid (HA3.out.alloc (.cells #[.int .i64 pk, .int .i64 pi, .int .i64 pf, .string pd, .string pt] 27))
  have B4 := Lib.hid (B_alloc B3.out (.cells #[.int .i64 pk, .int .i64 pi, .int .i64 pf, .string pd, .string pt] 27))
  go_wp2_with fail
  refine (HU.out _).mono ?_
  rintro e w5 ⟨rfl, b5⟩
  have B5 := Lib.hid (show B w w5 from (B_trans (by first | exact B4.out | exact B_drew B4.out | exact B_drewN B4.out _) b5))
  have HA5 := Lib.hid (HA4.out.b b5)
  have HC5 := Lib.hid (HC3.out.b b5)
  clear b5 B4 HA4 HC3 HA3 B3
  generalize w3.heap.size = q3 at *
  go_wp2_with fail
  refine (HRU.out _).mono ?_
  rintro e w6 ⟨rfl, b6⟩
  have B6 := Lib.hid (show B w w6 from (B_trans (by first | exact B5.out | exact B_drew B5.out | exact B_drewN B5.out _) b6))
  have HA6 := Lib.hid (HA5.out.b b6)
  have HC6 := Lib.hid (HC5.out.b b6)
  clear b6 B5 HA5 HC5
  have ha := HA6.out
  have hc := HC6.out
  have a0 := ha.cell 0
  have a1 := ha.cell 1
  have a2 := ha.cell 2
  have a3 := ha.cell 3
  have a4 := ha.cell 4
  have c0 := hc.cell 0
  have c1 := hc.cell 1
  have c2 := hc.cell 2
  have c3 := hc.cell 3
  have c4 := hc.cell 4
  have la := ha.lt
  have lc := hc.lt
  simp at a0 a1 a2 a3 a4 c0 c1 c2 c3 c4
  clear ha hc
  go_wp2_with fail
  refine (HE.out _).mono ?_
  rintro e w7 ⟨rfl, b7⟩
  have B7 := Lib.hid (show B w w7 from (B_trans (by first | exact B6.out | exact B_drew B6.out | exact B_drewN B6.out _) b7))
  clear b7 B6 HA6 HC6 a0 a1 a2 a3 a4 c0 c1 c2 c3 c4 la lc
  go_wp2_with fail
  refine (HRE.out _).mono ?_
  rintro e w8 ⟨rfl, b8⟩
  have B8 := Lib.hid (show B w w8 from (B_trans (by first | exact B7.out | exact B_drew B7.out | exact B_drewN B7.out _) b8))
  clear b8 B7
  go_wp2_with fail
  go_ret
  exact ⟨rfl, by repeat (first | with_reducible exact B8.out | refine B_drew ?_ | refine B_drewN ?_ _)⟩
end Go.Proofs.YthalpaggcdpcbaaDoor.Tr
