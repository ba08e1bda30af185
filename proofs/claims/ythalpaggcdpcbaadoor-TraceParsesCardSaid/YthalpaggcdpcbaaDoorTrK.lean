/- The reference's Parse. -/
import Derived.Test.YthalpaggcdpcbaaDoorTrI
import Derived.Test.YthalpaggcdpcbaaDoorTrQ
import Derived.Test.YthalpaggcdpcbaaDoorTrY
import Derived.Test.YthalpaggcdpcbaaDoorTCrN
namespace Go.Proofs.YthalpaggcdpcbaaDoor.Tr
open Go.RowKit Go.Proofs.YthalpaggcdpcbaaDoor Go.Proofs.YthalpaggcdpcbaaDoor.Nm Go.Proofs.YthalpaggcdpcbaaDoor.Cf
/-- What the reference has read: a candidate, or one of no kind. -/
def RefCand (l : List UInt8) (o : OutV) : Prop := Cand l o ∨ (o.k = -1 ∧ idxT (cut1 l).1 = -1)
def RefParse (l : ByteArray) (w : World) (e : Ending) (w' : World) : Prop := ∃ o, RefCand l.data.toList o ∧ e = .returned (.tuple #[outArg (parseA l o).1, .int .i64 (parseA l o).2]) ∧ Below w.heap.size w w'
theorem parse_none {l : ByteArray} {o : OutV} (h : o.k = -1) : parseA l o = (zeroO, 2) := by
  have hr : rightV o = false := by
    unfold rightV
    rw [if_neg (by omega), if_neg (by omega), if_neg (by omega), if_neg (by omega)]
  unfold parseA lineV
  rw [hr]
  exact if_neg (fun e => by cases e.1)
theorem ref_same {l : ByteArray} {p q : OutV} (hp : Cand l.data.toList p) (hq : RefCand l.data.toList q) : parseA l p = parseA l q := by
  rcases hq with hq | ⟨h1, h2⟩
  · exact parseA_same hp hq
  · rw [parse_none h1, parse_none (hp.k.trans h2)]
theorem idx_is (x : List UInt8) : (idxT x = -1 ∧ ∀ j : Nat, j < 7 → wordT j ≠ x) ∨ (∃ j : Nat, j < 7 ∧ idxT x = j ∧ wordT j = x ∧ ∀ m : Nat, m < 7 → m ≠ j → wordT m ≠ x) := by
  by_cases h : ∃ j : Nat, j < 7 ∧ wordT j = x
  · obtain ⟨j, hj, rfl⟩ := h
    refine .inr ⟨j, hj, (word_at (by omega) (by omega)).2, rfl, fun m hm hne he => ?_⟩
    have h1 := (word_at (k := (m : Int)) (by omega) (by omega)).2
    have h2 := (word_at (k := (j : Int)) (by omega) (by omega)).2
    rw [he, h2] at h1
    omega
  · refine .inl ⟨?_, fun j hj he => h ⟨j, hj, he⟩⟩
    have := Lib.idxOfS_miss wordsT 7 (bs x) (fun j hj he => h ⟨j, hj, by
      unfold wordT
      rw [show wordsT.getD ((j : Int)).toNat e0 = wordsT.getD j ByteArray.empty from rfl, he, bs_list]⟩)
    exact this
theorem idx_low (x : List UInt8) : -1 ≤ idxT x ∧ idxT x ≤ 6 := by
  rcases idx_is x with ⟨h, _⟩ | ⟨j, hj, h, _⟩ <;> omega
theorem word_same (s : ByteArray) (j : Nat) (hj : j < 7) : ((wordB j).toList == s.toList) = decide (idxT s.data.toList = j) := by
  rw [str_eq]
  have e : (wordB j).data.toList = wordT j := rfl
  rw [e]
  rcases idx_is s.data.toList with ⟨h1, h2⟩ | ⟨m, hm, h1, h2, h3⟩
  · rw [decide_eq_false (h2 j hj), decide_eq_false (by omega)]
  · by_cases hjm : j = m
    · subst hjm
      rw [decide_eq_true h2, decide_eq_true h1]
    · rw [decide_eq_false (h3 j hj hjm), decide_eq_false (by omega)]
/-- The kind found so far. -/
def upTo (k : Int) (j : Nat) : Int := if k < j then k else -1
theorem upTo_0 {k : Int} (h : -1 ≤ k) : upTo k 0 = -1 := by unfold upTo; split <;> omega
theorem upTo_7 {k : Int} (h : k ≤ 6) : upTo k 7 = k := by unfold upTo; rw [if_pos (by omega)]
theorem upTo_hit {j : Nat} : upTo (j : Int) (j + 1) = j := by unfold upTo; rw [if_pos (by omega)]
theorem upTo_miss {k : Int} {j : Nat} (h : k ≠ j) : upTo k (j + 1) = upTo k j := by
  unfold upTo
  by_cases h1 : k < j
  · rw [if_pos h1, if_pos (by omega)]
  · rw [if_neg h1, if_neg (by omega)]
/-- The frame's kind found so far. -/
def kTo (k : Int) (j : Nat) : Int := if k < j then k else 0
theorem kTo_1 {k : Int} (h : 0 ≤ k) : kTo k 1 = 0 := by unfold kTo; split <;> omega
theorem kTo_9 {k : Int} (h : k ≤ 8) : kTo k 9 = k := by unfold kTo; rw [if_pos (by omega)]
theorem kTo_hit {j : Nat} : kTo (j : Int) (j + 1) = j := by unfold kTo; rw [if_pos (by omega)]
theorem kTo_miss {k : Int} {j : Nat} (h : k ≠ j) : kTo k (j + 1) = kTo k j := by
  unfold kTo
  by_cases h1 : k < j
  · rw [if_pos h1, if_pos (by omega)]
  · rw [if_neg h1, if_neg (by omega)]
theorem kindT_low (x : List UInt8) : 0 ≤ kindT x ∧ kindT x ≤ 8 := by
  unfold kindT
  repeat' split
  all_goals omega
theorem kind_same (s : ByteArray) (j : Nat) (h1 : 1 ≤ j) (h8 : j ≤ 8) : ((fnameV j).toList == s.toList) = decide (kindT s.data.toList = j) := by
  rw [str_eq]
  by_cases h : (fnameV j).data.toList = s.data.toList
  · rw [decide_eq_true h, ← h, decide_eq_true (kind_at (by omega) (by omega)).2]
  · rw [decide_eq_false h, decide_eq_false]
    intro e
    apply h
    by_cases hx : ∃ m : Int, 1 ≤ m ∧ m ≤ 8 ∧ (fnameV m).data.toList = s.data.toList
    · obtain ⟨m, h3, h4, h5⟩ := hx
      rw [← h5, (kind_at h3 h4).2] at e
      rw [← h5, e]
    · have := kindT_no (l := s.data.toList) (fun m h3 h4 h5 => hx ⟨m, h3, h4, h5⟩)
      omega
theorem num_cand {s : ByteArray} {n : Int} (h : ∀ v, numV s = some v → n = v) : NumIs s n := fun v h0 h9 he => by
  apply h
  unfold numV
  rw [he]
  refine numOf_itoa ?_
  rw [tail_itoa]
  exact dec_len 8 v.natAbs (by omega)
theorem rparse_end {tmps : Array Value} {W : World} {b : Nat} {k i f c : Int} {d t : ByteArray} {Q : Ending → World → Prop} (h2 : tmps[2]? = some (.pointer (some ⟨b, 0, none⟩))) (h3 : tmps[3]? = some (.int .i64 c))
    (hC : Blk W b 27 #[.int .i64 k, .int .i64 i, .int .i64 f, .string d, .string t]) (hQ : Q (.returned (.tuple #[.agg #[.int .i64 k, .int .i64 i, .int .i64 f, .string d, .string t], .int .i64 c])) W) :
    bodyPost Tryd.prog Tryd.f21 Q .ret { tmps := tmps, defers := [] } W := by
  have c0 := hC.cell 0
  have c1 := hC.cell 1
  have c2 := hC.cell 2
  have c3 := hC.cell 3
  have c4 := hC.cell 4
  simp at c0 c1 c2 c3 c4
  refine bodyPost_ret (v := .tuple #[.agg #[.int .i64 k, .int .i64 i, .int .i64 f, .string d, .string t], .int .i64 c]) ?_ rfl hQ
  simp [results, Tryd.results21, h2, h3, asAddr, c0, c1, c2, c3, c4, go_sem]
set_option maxRecDepth 100000 in
set_option maxHeartbeats 8000000 in
theorem refparse_any (l : ByteArray) (hl : l.size ≤ 1000) (w : World) : Calls Tryd.prog 21 #[.string l] w (RefParse l w) := by
  have hcs := cut_sizes l
  have hcs2 := cut_sizes (cutB l)
  have hcs3 := cut_sizes (cutB (cutB l))
  have HC1 := Lib.hid (fun W => refcut_any l (by omega) W)
  obtain ⟨k, hk⟩ : ∃ k, idxT (cut1 l.data.toList).1 = k := ⟨_, rfl⟩
  have hkl := idx_low (cut1 l.data.toList).1
  rw [hk] at hkl
  have hwd : ∀ j : Nat, j < 7 → ((wordB j).toList == (cutA l).toList) = decide (k = j) := fun j hj => by
    rw [word_same _ j hj]
    unfold cutA
    rw [bs_list, hk]
  have HWD := Lib.hid hwd
  have HKI := Lib.hid hk
  clear hwd hk
  have HR0 := Lib.hid (Blk.new w 27 #[.int .i64 0, .int .i64 0, .int .i64 0, .string ⟨#[]⟩, .string ⟨#[]⟩])
  have HB0 := Lib.hid (B_alloc (B_refl w) (.cells #[.int .i64 0, .int .i64 0, .int .i64 0, .string ⟨#[]⟩, .string ⟨#[]⟩] 27))
  have HW0 := Lib.hid (show Blk ((w.alloc (.cells #[.int .i64 0, .int .i64 0, .int .i64 0, .string ⟨#[]⟩, .string ⟨#[]⟩] 27)).alloc (.cells (encS wordsT).toArray 9)) (w.heap.size + 1) 9 (encS wordsT).toArray from heap_at_new _ (by simp))
  go_enter Tryd.func21, Tryd.ntmps21
  go_wp2_with fail
  refine (HC1.out _).mono ?_
  rintro e w1 ⟨f1, rfl, b1⟩
  have B1 := Lib.hid (show B w w1 from B_trans (B_alloc HB0.out _) b1)
  have HR1 := Lib.hid (show Blk w1 w.heap.size 27 #[.int .i64 0, .int .i64 0, .int .i64 0, .string ⟨#[]⟩, .string ⟨#[]⟩] from (HR0.out.alloc _).b b1)
  have HW1 := Lib.hid (show Blk w1 (w.heap.size + 1) 9 (encS wordsT).toArray from HW0.out.b b1)
  have hq : w.heap.size + 1 < w1.heap.size := by have := HW1.out.lt; exact this
  clear b1 HR0 HW0 HB0 HC1
  have HO1 := Lib.hid (Blk.new w1 27 #[.int .i64 (-1), .int .i64 0, .int .i64 0, .string ⟨#[]⟩, .string ⟨#[]⟩])
  go_wp2_with fail
  go_loopw [9] (fun i wr => ∃ j : Nat, j ≤ 7 ∧ i = .int .i64 j ∧ Blk wr w1.heap.size 27 #[.int .i64 (upTo k j), .int .i64 0, .int .i64 0, .string ⟨#[]⟩, .string ⟨#[]⟩] ∧ Blk wr w.heap.size 27 #[.int .i64 0, .int .i64 0, .int .i64 0, .string ⟨#[]⟩, .string ⟨#[]⟩] ∧ Blk wr (w.heap.size + 1) 9 (encS wordsT).toArray ∧ B w wr) (fun i _ => 7 - (intOf i).toNat)
  case atStart => exact ⟨0, by omega, rfl, by rw [upTo_0 hkl.1]; exact HO1.out, HR1.out.alloc _, HW1.out.alloc _, B_alloc B1.out _⟩
  case round =>
    obtain ⟨j, hj, rfl, ho, hr, hw, hb⟩ := hrel
    have HO := Lib.hid ho
    have HR := Lib.hid hr
    have HW := Lib.hid hw
    have HB := Lib.hid hb
    clear ho hr hw hb
    by_cases hj7 : j < 7
    · have t0 : decide ((j : Int) < 7) = true := decide_eq_true (by omega)
      have hc := (HW.out.cell j).trans (word_cell hj7)
      have HWJ := Lib.hid (HWD.out j hj7)
      have z0 := HO.out.frozen 0
      have zl := HO.out.lt
      have zc : ∃ v, wr.cell? ⟨w1.heap.size, 0, none⟩ = some v := ⟨_, HO.out.cell 0⟩
      obtain ⟨v0, zc⟩ := zc
      generalize wordB j = wj at *
      by_cases hkj : k = j
      · have t1 : (wj.toList == (cutA l).toList) = true := by rw [HWJ.out]; exact decide_eq_true hkj
        have HU := Lib.hid (show upTo k (j + 1) = (j : Int) by rw [hkj]; exact upTo_hit)
        clear hkj
        go_wp2_with fail
        go_roundw
        case rel => exact ⟨j + 1, by omega, by push_cast; rfl, by rw [HU.out]; exact HO.out.set_ 0 _, HR.out.far (by simp; omega) _, HW.out.far (by simp; omega) _, B_setCell HB.out (by simp; omega) _⟩
        case measure => simp [intOf]; omega
      · have t1 : (wj.toList == (cutA l).toList) = false := by rw [HWJ.out]; exact decide_eq_false hkj
        have HU := Lib.hid (upTo_miss hkj)
        clear hkj
        go_wp2_with fail
        go_roundw
        case rel => exact ⟨j + 1, by omega, by push_cast; rfl, by rw [HU.out]; exact HO.out, HR.out, HW.out, HB.out⟩
        case measure => simp [intOf]; omega
    · obtain rfl : j = 7 := by omega
      rw [upTo_7 (by omega)] at HO
      have HO4 := HO
      have HR4 := HR
      have B4 := HB
      clear HWD HW HW1 HR1 HO1 B1 HO HR HB
      generalize w1.heap.size = q at *
      have hqo := HO4.out
      have d0 := hqo.cell 0
      have d1 := hqo.cell 1
      have d2 := hqo.cell 2
      have d3 := hqo.cell 3
      have d4 := hqo.cell 4
      have hql := hqo.lt
      have fz := fun i => hqo.frozen i
      simp at d0 d1 d2 d3 d4
      clear hqo
      have ha2 : (cutA (cutB l)).data.toList = (cut1 (cut1 l.data.toList).2).1 := by unfold cutA cutB; rw [bs_list, bs_list]
      have hb2 : (cutB (cutB l)).data.toList = (cut1 (cut1 l.data.toList).2).2 := by unfold cutB; rw [bs_list, bs_list]
      have hb1 : (cutB l).data.toList = (cut1 l.data.toList).2 := by unfold cutB; rw [bs_list]
      by_cases h56 : k = 5 ∨ k = 6
      · have t5 : decide (5 ≤ k) = true := decide_eq_true (by omega)
        have HU := Lib.hid (fun W => refunescape_any (cutB l) (by omega) W)
        have H56 := Lib.hid h56
        clear h56
        go_wp2_with fail
        refine (HU.out _).mono ?_
        rintro e w5 ⟨rfl, b5⟩
        have B5 := Lib.hid (show B w w5 from (B_trans (by first | exact B4.out | exact B_drew B4.out | exact B_drewN B4.out _) b5))
        have HR5 := Lib.hid (HR4.out.b b5)
        have HO5 := Lib.hid (HO4.out.b b5)
        clear b5 HR4 HO4 B4 d0 d1 d2 d3 d4 hql fz
        have hqo := HO5.out
        have d0 := hqo.cell 0
        have d1 := hqo.cell 1
        have d2 := hqo.cell 2
        have d3 := hqo.cell 3
        have d4 := hqo.cell 4
        have hql := hqo.lt
        have fz := fun i => hqo.frozen i
        simp at d0 d1 d2 d3 d4
        clear hqo
        obtain ⟨u, c, hu⟩ : ∃ u c, unescV (cutB l) = (u, c) := ⟨_, _, rfl⟩
        rw [hu]
        dsimp only
        have hus : u.size ≤ 1000 := by
          have := unescV_size (cutB l)
          rw [hu] at this
          simp only at this
          omega
        have HUT := Lib.hid (show u = unescD (cut1 l.data.toList).2 by
          rw [← hb1, ← unescV_is, hu])
        clear hu
        obtain ⟨oo, hoo⟩ : ∃ oo : OutV, oo = ⟨k, 0, 0, ⟨#[]⟩, u⟩ := ⟨_, rfl⟩
        have HCD := Lib.hid (show RefCand l.data.toList oo by rw [hoo]; exact (.inl (cand_say HKI.out H56.out HUT.out)))
        have HLN := Lib.hid (fun W => refline_any oo (by rw [hoo]; simp only; first | omega | decide) (by rw [hoo]; simp only; first | omega | decide) W)
        unfold LinePost at HLN
        have HH := Lib.hid (line_three l oo)
        rw [show outArg oo = .agg #[.int .i64 (k), .int .i64 (0), .int .i64 (0), .string (⟨#[]⟩), .string (u)] by rw [hoo]; rfl] at HLN
        have HOA := Lib.hid (show outArg oo = .agg #[.int .i64 (k), .int .i64 (0), .int .i64 (0), .string (⟨#[]⟩), .string (u)] by rw [hoo]; rfl)
        clear hoo
        go_wp2_with fail
        refine (HLN.out _).mono ?_
        rintro e wl ⟨rfl, bl⟩
        have HRL := Lib.hid (Blk.b (show Blk _ w.heap.size 27 #[.int .i64 0, .int .i64 0, .int .i64 0, .string ⟨#[]⟩, .string ⟨#[]⟩] by repeat (first | with_reducible exact HR5.out | refine Blk.far ?_ (by simp; omega) _ | refine Blk.drew ?_)) bl)
        have HOL := Lib.hid (Blk.b (show Blk _ q 27 #[.int .i64 (k), .int .i64 (0), .int .i64 (0), .string (⟨#[]⟩), .string (u)] from HO5.out.set_ 4 _) bl)
        have BL := Lib.hid (show B w wl from B_trans (by repeat (first | with_reducible exact B5.out | refine B_setCell ?_ (by first | (simp; done) | (simp; omega)) _ | refine B_drew ?_)) bl)
        clear bl d0 d1 d2 d3 d4 fz hql HR5 HO5 B5 HLN
        have hqo := HOL.out
        have hqr := HRL.out
        have d0 := hqo.cell 0
        have d1 := hqo.cell 1
        have d2 := hqo.cell 2
        have d3 := hqo.cell 3
        have d4 := hqo.cell 4
        have r0 := hqr.cell 0
        have r1 := hqr.cell 1
        have r2 := hqr.cell 2
        have r3 := hqr.cell 3
        have r4 := hqr.cell 4
        have hql := hqo.lt
        have hqr1 := hqr.lt
        have fz := fun i => hqr.frozen i
        simp at d0 d1 d2 d3 d4 r0 r1 r2 r3 r4
        clear hqo hqr
        rcases HH.out with ⟨h1, h2⟩ | ⟨lv, h1, hne, h2⟩ | ⟨h1, h2⟩
        all_goals
          rw [h1]
          have H2 := Lib.hid h2
          clear h1 h2 HH
          go_wp2_with fail
        · refine rparse_end (by rfl) (by rfl) (show Blk _ _ _ #[.int .i64 0, .int .i64 0, .int .i64 0, .string ⟨#[]⟩, .string ⟨#[]⟩] from ((((HRL.out.set_ 0 _).set_ 1 _).set_ 2 _).set_ 3 _).set_ 4 _) ⟨oo, HCD.out, by rw [H2.out]; rfl, ?_⟩
          repeat (first | with_reducible exact BL.out | refine B_setCell ?_ (by first | (simp; done) | (simp; omega)) _ | refine B_drew ?_)
        · refine rparse_end (by rfl) (by rfl) (show Blk _ _ _ #[.int .i64 0, .int .i64 0, .int .i64 0, .string ⟨#[]⟩, .string ⟨#[]⟩] from ((((HRL.out.set_ 0 _).set_ 1 _).set_ 2 _).set_ 3 _).set_ 4 _) ⟨oo, HCD.out, by rw [H2.out]; rfl, ?_⟩
          repeat (first | with_reducible exact BL.out | refine B_setCell ?_ (by first | (simp; done) | (simp; omega)) _ | refine B_drew ?_)
        · refine rparse_end (by rfl) (by rfl) (show Blk _ _ _ #[.int .i64 (k), .int .i64 (0), .int .i64 (0), .string (⟨#[]⟩), .string (u)] from ((((HRL.out.set_ 0 _).set_ 1 _).set_ 2 _).set_ 3 _).set_ 4 _) ⟨oo, HCD.out, by rw [H2.out]; exact congrArg (fun z => Ending.returned (.tuple #[z, .int .i64 0])) HOA.out.symm, ?_⟩
          repeat (first | with_reducible exact BL.out | refine B_setCell ?_ (by first | (simp; done) | (simp; omega)) _ | refine B_drew ?_)
      · have t5 : decide (5 ≤ k) = false := decide_eq_false (by omega)
        have HC2 := Lib.hid (fun W => refcut_any (cutB l) (by omega) W)
        have HN := Lib.hid (fun W => refnumber_any (cutA (cutB l)) (by omega) W)
        unfold NumPost at HN
        have HNC := Lib.hid (fun n h => num_cand (s := cutA (cutB l)) (n := n) h)
        have HA2 := Lib.hid ha2
        have HB2 := Lib.hid hb2
        go_wp2_with fail
        refine (HC2.out _).mono ?_
        rintro e w5 ⟨f2, rfl, b5⟩
        have B5 := Lib.hid (show B w w5 from (B_trans (by first | exact B4.out | exact B_drew B4.out | exact B_drewN B4.out _) b5))
        have HR5 := Lib.hid (HR4.out.b b5)
        have HO5 := Lib.hid (HO4.out.b b5)
        clear b5 HR4 HO4 B4 d0 d1 d2 d3 d4 hql fz
        have hqo := HO5.out
        have d0 := hqo.cell 0
        have d1 := hqo.cell 1
        have d2 := hqo.cell 2
        have d3 := hqo.cell 3
        have d4 := hqo.cell 4
        have hql := hqo.lt
        have fz := fun i => hqo.frozen i
        simp at d0 d1 d2 d3 d4
        clear hqo
        go_wp2_with fail
        refine (HN.out _).mono ?_
        rintro e w6 ⟨n, ok, rfl, _, hn, b6⟩
        have HNI := Lib.hid (HNC.out n hn)
        clear hn
        have B6 := Lib.hid (show B w w6 from (B_trans (by first | exact B5.out | exact B_drew B5.out | exact B_drewN B5.out _) b6))
        have HR6 := Lib.hid (HR5.out.b b6)
        have HO6 := Lib.hid (HO5.out.b b6)
        clear b6 HR5 HO5 B5 d0 d1 d2 d3 d4 hql fz
        have hqo := HO6.out
        have d0 := hqo.cell 0
        have d1 := hqo.cell 1
        have d2 := hqo.cell 2
        have d3 := hqo.cell 3
        have d4 := hqo.cell 4
        have hql := hqo.lt
        have fz := fun i => hqo.frozen i
        simp at d0 d1 d2 d3 d4
        clear hqo
        by_cases h2 : k = 2
        · have t2 : (k == 2) = true := beq_iff_eq.2 h2
          have t1 : decide (k ≤ 1) = false := decide_eq_false (by omega)
          have H2 := Lib.hid h2
          clear h2 h56
          have hb2s : (cutB (cutB l)).size ≤ 1000 := by omega
          have HB3 := Lib.hid (show cutB (cutB l) = bs (cut1 (cut1 l.data.toList).2).2 by rw [← hb2, of_bs])
          clear ha2 hb2 hb1 hcs hcs2 hcs3
          generalize cutB (cutB l) = u at *
          obtain ⟨oo, hoo⟩ : ∃ oo : OutV, oo = ⟨k, n, 0, ⟨#[]⟩, u⟩ := ⟨_, rfl⟩
          have HCD := Lib.hid (show RefCand l.data.toList oo by rw [hoo]; exact (.inl (cand_dial HKI.out H2.out (fun v h0 h9 h => HNI.out v h0 h9 (HA2.out.trans h)) HB3.out)))
          have HLN := Lib.hid (fun W => refline_any oo (by rw [hoo]; simp only; first | omega | decide) (by rw [hoo]; simp only; first | omega | decide) W)
          unfold LinePost at HLN
          have HH := Lib.hid (line_three l oo)
          rw [show outArg oo = .agg #[.int .i64 (k), .int .i64 (n), .int .i64 (0), .string (⟨#[]⟩), .string (u)] by rw [hoo]; rfl] at HLN
          have HOA := Lib.hid (show outArg oo = .agg #[.int .i64 (k), .int .i64 (n), .int .i64 (0), .string (⟨#[]⟩), .string (u)] by rw [hoo]; rfl)
          clear hoo
          go_wp2_with fail
          refine (HLN.out _).mono ?_
          rintro e wl ⟨rfl, bl⟩
          have HRL := Lib.hid (Blk.b (show Blk _ w.heap.size 27 #[.int .i64 0, .int .i64 0, .int .i64 0, .string ⟨#[]⟩, .string ⟨#[]⟩] by repeat (first | with_reducible exact HR6.out | refine Blk.far ?_ (by simp; omega) _ | refine Blk.drew ?_)) bl)
          have HOL := Lib.hid (Blk.b (show Blk _ q 27 #[.int .i64 (k), .int .i64 (n), .int .i64 (0), .string (⟨#[]⟩), .string (u)] from (HO6.out.set_ 1 _).set_ 4 _) bl)
          have BL := Lib.hid (show B w wl from B_trans (by repeat (first | with_reducible exact B6.out | refine B_setCell ?_ (by first | (simp; done) | (simp; omega)) _ | refine B_drew ?_)) bl)
          clear bl d0 d1 d2 d3 d4 fz hql HR6 HO6 B6 HLN
          have hqo := HOL.out
          have hqr := HRL.out
          have d0 := hqo.cell 0
          have d1 := hqo.cell 1
          have d2 := hqo.cell 2
          have d3 := hqo.cell 3
          have d4 := hqo.cell 4
          have r0 := hqr.cell 0
          have r1 := hqr.cell 1
          have r2 := hqr.cell 2
          have r3 := hqr.cell 3
          have r4 := hqr.cell 4
          have hql := hqo.lt
          have hqr1 := hqr.lt
          have fz := fun i => hqr.frozen i
          simp at d0 d1 d2 d3 d4 r0 r1 r2 r3 r4
          clear hqo hqr
          rcases HH.out with ⟨h1, h2⟩ | ⟨lv, h1, hne, h2⟩ | ⟨h1, h2⟩
          all_goals
            rw [h1]
            have H2 := Lib.hid h2
            clear h1 h2 HH
            go_wp2_with fail
          · refine rparse_end (by rfl) (by rfl) (show Blk _ _ _ #[.int .i64 0, .int .i64 0, .int .i64 0, .string ⟨#[]⟩, .string ⟨#[]⟩] from ((((HRL.out.set_ 0 _).set_ 1 _).set_ 2 _).set_ 3 _).set_ 4 _) ⟨oo, HCD.out, by rw [H2.out]; rfl, ?_⟩
            repeat (first | with_reducible exact BL.out | refine B_setCell ?_ (by first | (simp; done) | (simp; omega)) _ | refine B_drew ?_)
          · refine rparse_end (by rfl) (by rfl) (show Blk _ _ _ #[.int .i64 0, .int .i64 0, .int .i64 0, .string ⟨#[]⟩, .string ⟨#[]⟩] from ((((HRL.out.set_ 0 _).set_ 1 _).set_ 2 _).set_ 3 _).set_ 4 _) ⟨oo, HCD.out, by rw [H2.out]; rfl, ?_⟩
            repeat (first | with_reducible exact BL.out | refine B_setCell ?_ (by first | (simp; done) | (simp; omega)) _ | refine B_drew ?_)
          · refine rparse_end (by rfl) (by rfl) (show Blk _ _ _ #[.int .i64 (k), .int .i64 (n), .int .i64 (0), .string (⟨#[]⟩), .string (u)] from ((((HRL.out.set_ 0 _).set_ 1 _).set_ 2 _).set_ 3 _).set_ 4 _) ⟨oo, HCD.out, by rw [H2.out]; exact congrArg (fun z => Ending.returned (.tuple #[z, .int .i64 0])) HOA.out.symm, ?_⟩
            repeat (first | with_reducible exact BL.out | refine B_setCell ?_ (by first | (simp; done) | (simp; omega)) _ | refine B_drew ?_)
        · have t2 : (k == 2) = false := beq_eq_false_iff_ne.2 h2
          by_cases h1 : k ≤ 1
          · have t1 : decide (k ≤ 1) = true := decide_eq_true h1
            have HCF := Lib.hid (show ∀ u : ByteArray, u = unescD (cut1 (cut1 (cut1 l.data.toList).2).2).2 → RefCand l.data.toList ⟨k, n, kindT (cut1 (cut1 (cut1 l.data.toList).2).2).1, u, ⟨#[]⟩⟩ from fun u hu => by
              by_cases hm : k = -1
              · exact .inr ⟨hm, HKI.out.trans hm⟩
              · exact .inl (cand_frame HKI.out (by omega) (fun v h0 h9 h => HNI.out v h0 h9 (HA2.out.trans h)) rfl hu))
            have HC3 := Lib.hid (fun W => refcut_any (cutB (cutB l)) (by omega) W)
            have HU := Lib.hid (fun W => refunescape_any (cutB (cutB (cutB l))) (by omega) W)
            have ha3 : (cutA (cutB (cutB l))).data.toList = (cut1 (cut1 (cut1 l.data.toList).2).2).1 := by rw [← hb2]; unfold cutA; rw [bs_list]
            have hb3 : (cutB (cutB (cutB l))).data.toList = (cut1 (cut1 (cut1 l.data.toList).2).2).2 := by rw [← hb2]; rw [show ∀ s : ByteArray, (cutB s).data.toList = (cut1 s.data.toList).2 from fun s => by unfold cutB; rw [bs_list]]
            have hks : ∀ j : Nat, 1 ≤ j → j ≤ 8 → ((fnameV j).toList == (cutA (cutB (cutB l))).toList) = decide (kindT (cut1 (cut1 (cut1 l.data.toList).2).2).1 = j) := fun j h1 h8 => by
              rw [kind_same _ j h1 h8, ha3]
            have hkl2 := kindT_low (cut1 (cut1 (cut1 l.data.toList).2).2).1
            obtain ⟨fk, hfk⟩ : ∃ fk, kindT (cut1 (cut1 (cut1 l.data.toList).2).2).1 = fk := ⟨_, rfl⟩
            rw [hfk] at hks hkl2 HCF
            have HKS := Lib.hid hks
            have HB3 := Lib.hid hb3
            clear hfk hks h56 h2 h1 ha2 hb2 hb1 ha3 hb3
            go_wp2_with fail
            refine (HC3.out _).mono ?_
            rintro e w7 ⟨f3, rfl, b7⟩
            have B7 := Lib.hid (show B w w7 from B_trans (by repeat (first | with_reducible exact B6.out | refine B_setCell ?_ (by first | (simp; done) | (simp; omega)) _ | refine B_drew ?_)) b7)
            have HR7 := Lib.hid (Blk.b (show Blk _ w.heap.size 27 #[.int .i64 0, .int .i64 0, .int .i64 0, .string ⟨#[]⟩, .string ⟨#[]⟩] by repeat (first | with_reducible exact HR6.out | refine Blk.far ?_ (by simp; omega) _ | refine Blk.drew ?_)) b7)
            have HO7 := Lib.hid (Blk.b (show Blk _ q 27 #[.int .i64 k, .int .i64 n, .int .i64 0, .string ⟨#[]⟩, .string ⟨#[]⟩] from HO6.out.set_ 1 _) b7)
            clear b7 HR6 HO6 B6 d0 d1 d2 d3 d4 hql fz
            have hqo := HO7.out
            have d0 := hqo.cell 0
            have d1 := hqo.cell 1
            have d2 := hqo.cell 2
            have d3 := hqo.cell 3
            have d4 := hqo.cell 4
            have hql := hqo.lt
            have fz := fun i => hqo.frozen i
            simp at d0 d1 d2 d3 d4
            clear hqo
            go_wp2_with fail
            go_loopw [20] (fun i wz => ∃ j : Nat, 1 ≤ j ∧ j ≤ 9 ∧ i = .int .i64 j ∧ Blk wz q 27 #[.int .i64 k, .int .i64 n, .int .i64 (kTo fk j), .string ⟨#[]⟩, .string ⟨#[]⟩] ∧ Blk wz w.heap.size 27 #[.int .i64 0, .int .i64 0, .int .i64 0, .string ⟨#[]⟩, .string ⟨#[]⟩] ∧ B w wz) (fun i _ => 9 - (intOf i).toNat)
            case atStart => exact ⟨1, by omega, by omega, rfl, by rw [kTo_1 hkl2.1]; exact HO7.out, HR7.out, B7.out⟩
            case round =>
              obtain ⟨j, hj1, hj, rfl, ho, hr, hb⟩ := hrel
              have HO := Lib.hid ho
              have HR := Lib.hid hr
              have HB := Lib.hid hb
              clear ho hr hb d0 d1 d2 d3 d4 hql fz
              by_cases hj8 : j ≤ 8
              · have t0 : decide ((j : Int) ≤ 8) = true := decide_eq_true (by omega)
                have HFN := Lib.hid (fun W => reffname_any (j : Int) (by omega) W)
                have HWJ := Lib.hid (HKS.out j hj1 hj8)
                generalize fnameV (j : Int) = wj at *
                go_wp2_with fail
                refine (HFN.out _).mono ?_
                rintro e w8 ⟨rfl, b8⟩
                have B8 := Lib.hid (show B w w8 from B_trans (by repeat (first | with_reducible exact HB.out | refine B_drew ?_)) b8)
                have HR8 := Lib.hid (HR.out.b b8)
                have HO8 := Lib.hid (HO.out.b b8)
                clear b8
                have z0 := HO8.out.frozen 2
                have zl := HO8.out.lt
                obtain ⟨v0, zc⟩ : ∃ v, w8.cell? ⟨q, 2, none⟩ = some v := ⟨_, HO8.out.cell 2⟩
                by_cases hkj : fk = j
                · have t3 : (wj.toList == (cutA (cutB (cutB l))).toList) = true := by rw [HWJ.out]; exact decide_eq_true hkj
                  have HU2 := Lib.hid (show kTo fk (j + 1) = (j : Int) by rw [hkj]; exact kTo_hit)
                  clear hkj
                  go_wp2_with fail
                  go_roundw
                  case rel => exact ⟨j + 1, by omega, by omega, by push_cast; rfl, by rw [HU2.out]; exact HO8.out.set_ 2 _, HR8.out.far (by simp; omega) _, B_setCell B8.out (by simp; omega) _⟩
                  case measure => simp [intOf]; omega
                · have t3 : (wj.toList == (cutA (cutB (cutB l))).toList) = false := by rw [HWJ.out]; exact decide_eq_false hkj
                  have HU2 := Lib.hid (kTo_miss hkj)
                  clear hkj
                  go_wp2_with fail
                  go_roundw
                  case rel => exact ⟨j + 1, by omega, by omega, by push_cast; rfl, by rw [HU2.out]; exact HO8.out, HR8.out, B8.out⟩
                  case measure => simp [intOf]; omega
              · obtain rfl : j = 9 := by omega
                rw [kTo_9 hkl2.2] at HO
                have HO8 := HO
                have HR8 := HR
                have B8 := HB
                clear HO HR HB HO7 HR7 B7
                have hqo := HO8.out
                have d0 := hqo.cell 0
                have d1 := hqo.cell 1
                have d2 := hqo.cell 2
                have d3 := hqo.cell 3
                have d4 := hqo.cell 4
                have hql := hqo.lt
                have fz := fun i => hqo.frozen i
                simp at d0 d1 d2 d3 d4
                clear hqo
                go_wp2_with fail
                refine (HU.out _).mono ?_
                rintro e w9 ⟨rfl, b9⟩
                have B9 := Lib.hid (show B w w9 from (B_trans (by first | exact B8.out | exact B_drew B8.out | exact B_drewN B8.out _) b9))
                have HR9 := Lib.hid (HR8.out.b b9)
                have HO9 := Lib.hid (HO8.out.b b9)
                clear b9 HR8 HO8 B8 d0 d1 d2 d3 d4 hql fz
                have hqo := HO9.out
                have d0 := hqo.cell 0
                have d1 := hqo.cell 1
                have d2 := hqo.cell 2
                have d3 := hqo.cell 3
                have d4 := hqo.cell 4
                have hql := hqo.lt
                have fz := fun i => hqo.frozen i
                simp at d0 d1 d2 d3 d4
                clear hqo
                obtain ⟨u, c, hu⟩ : ∃ u c, unescV (cutB (cutB (cutB l))) = (u, c) := ⟨_, _, rfl⟩
                rw [hu]
                dsimp only
                have hus : u.size ≤ 1000 := by
                  have := unescV_size (cutB (cutB (cutB l)))
                  rw [hu] at this
                  simp only at this
                  have h5 := cut_sizes (cutB (cutB l))
                  have h6 := cut_sizes (cutB l)
                  have h7 := cut_sizes l
                  omega
                have HUT := Lib.hid (show u = unescD (cut1 (cut1 (cut1 l.data.toList).2).2).2 by
                  rw [← HB3.out, ← unescV_is, hu])
                clear hu
                obtain ⟨oo, hoo⟩ : ∃ oo : OutV, oo = ⟨k, n, fk, u, ⟨#[]⟩⟩ := ⟨_, rfl⟩
                have HCD := Lib.hid (show RefCand l.data.toList oo by rw [hoo]; exact (HCF.out u HUT.out))
                have HLN := Lib.hid (fun W => refline_any oo (by rw [hoo]; simp only; first | omega | decide) (by rw [hoo]; simp only; first | omega | decide) W)
                unfold LinePost at HLN
                have HH := Lib.hid (line_three l oo)
                rw [show outArg oo = .agg #[.int .i64 (k), .int .i64 (n), .int .i64 (fk), .string (u), .string (⟨#[]⟩)] by rw [hoo]; rfl] at HLN
                have HOA := Lib.hid (show outArg oo = .agg #[.int .i64 (k), .int .i64 (n), .int .i64 (fk), .string (u), .string (⟨#[]⟩)] by rw [hoo]; rfl)
                clear hoo
                go_wp2_with fail
                refine (HLN.out _).mono ?_
                rintro e wl ⟨rfl, bl⟩
                have HRL := Lib.hid (Blk.b (show Blk _ w.heap.size 27 #[.int .i64 0, .int .i64 0, .int .i64 0, .string ⟨#[]⟩, .string ⟨#[]⟩] by repeat (first | with_reducible exact HR9.out | refine Blk.far ?_ (by simp; omega) _ | refine Blk.drew ?_)) bl)
                have HOL := Lib.hid (Blk.b (show Blk _ q 27 #[.int .i64 (k), .int .i64 (n), .int .i64 (fk), .string (u), .string (⟨#[]⟩)] from HO9.out.set_ 3 _) bl)
                have BL := Lib.hid (show B w wl from B_trans (by repeat (first | with_reducible exact B9.out | refine B_setCell ?_ (by first | (simp; done) | (simp; omega)) _ | refine B_drew ?_)) bl)
                clear bl d0 d1 d2 d3 d4 fz hql HR9 HO9 B9 HLN
                have hqo := HOL.out
                have hqr := HRL.out
                have d0 := hqo.cell 0
                have d1 := hqo.cell 1
                have d2 := hqo.cell 2
                have d3 := hqo.cell 3
                have d4 := hqo.cell 4
                have r0 := hqr.cell 0
                have r1 := hqr.cell 1
                have r2 := hqr.cell 2
                have r3 := hqr.cell 3
                have r4 := hqr.cell 4
                have hql := hqo.lt
                have hqr1 := hqr.lt
                have fz := fun i => hqr.frozen i
                simp at d0 d1 d2 d3 d4 r0 r1 r2 r3 r4
                clear hqo hqr
                rcases HH.out with ⟨h1, h2⟩ | ⟨lv, h1, hne, h2⟩ | ⟨h1, h2⟩
                all_goals
                  rw [h1]
                  have H2 := Lib.hid h2
                  clear h1 h2 HH
                  go_wp2_with fail
                · refine rparse_end (by rfl) (by rfl) (show Blk _ _ _ #[.int .i64 0, .int .i64 0, .int .i64 0, .string ⟨#[]⟩, .string ⟨#[]⟩] from ((((HRL.out.set_ 0 _).set_ 1 _).set_ 2 _).set_ 3 _).set_ 4 _) ⟨oo, HCD.out, by rw [H2.out]; rfl, ?_⟩
                  repeat (first | with_reducible exact BL.out | refine B_setCell ?_ (by first | (simp; done) | (simp; omega)) _ | refine B_drew ?_)
                · refine rparse_end (by rfl) (by rfl) (show Blk _ _ _ #[.int .i64 0, .int .i64 0, .int .i64 0, .string ⟨#[]⟩, .string ⟨#[]⟩] from ((((HRL.out.set_ 0 _).set_ 1 _).set_ 2 _).set_ 3 _).set_ 4 _) ⟨oo, HCD.out, by rw [H2.out]; rfl, ?_⟩
                  repeat (first | with_reducible exact BL.out | refine B_setCell ?_ (by first | (simp; done) | (simp; omega)) _ | refine B_drew ?_)
                · refine rparse_end (by rfl) (by rfl) (show Blk _ _ _ #[.int .i64 (k), .int .i64 (n), .int .i64 (fk), .string (u), .string (⟨#[]⟩)] from ((((HRL.out.set_ 0 _).set_ 1 _).set_ 2 _).set_ 3 _).set_ 4 _) ⟨oo, HCD.out, by rw [H2.out]; exact congrArg (fun z => Ending.returned (.tuple #[z, .int .i64 0])) HOA.out.symm, ?_⟩
                  repeat (first | with_reducible exact BL.out | refine B_setCell ?_ (by first | (simp; done) | (simp; omega)) _ | refine B_drew ?_)
          · have t1 : decide (k ≤ 1) = false := decide_eq_false h1
            have H34 := Lib.hid (show k ≠ 5 ∧ k ≠ 6 ∧ k ≠ 2 ∧ k ≠ 0 ∧ k ≠ 1 by omega)
            clear h56 h2
            obtain ⟨oo, hoo⟩ : ∃ oo : OutV, oo = ⟨k, n, 0, ⟨#[]⟩, ⟨#[]⟩⟩ := ⟨_, rfl⟩
            have HCD := Lib.hid (show RefCand l.data.toList oo by rw [hoo]; exact (.inl (cand_gone HKI.out H34.out (fun v h0 h9 h => HNI.out v h0 h9 (HA2.out.trans h)))))
            have HLN := Lib.hid (fun W => refline_any oo (by rw [hoo]; simp only; first | omega | decide) (by rw [hoo]; simp only; first | omega | decide) W)
            unfold LinePost at HLN
            have HH := Lib.hid (line_three l oo)
            rw [show outArg oo = .agg #[.int .i64 (k), .int .i64 (n), .int .i64 (0), .string (⟨#[]⟩), .string (⟨#[]⟩)] by rw [hoo]; rfl] at HLN
            have HOA := Lib.hid (show outArg oo = .agg #[.int .i64 (k), .int .i64 (n), .int .i64 (0), .string (⟨#[]⟩), .string (⟨#[]⟩)] by rw [hoo]; rfl)
            clear hoo
            go_wp2_with fail
            refine (HLN.out _).mono ?_
            rintro e wl ⟨rfl, bl⟩
            have HRL := Lib.hid (Blk.b (show Blk _ w.heap.size 27 #[.int .i64 0, .int .i64 0, .int .i64 0, .string ⟨#[]⟩, .string ⟨#[]⟩] by repeat (first | with_reducible exact HR6.out | refine Blk.far ?_ (by simp; omega) _ | refine Blk.drew ?_)) bl)
            have HOL := Lib.hid (Blk.b (show Blk _ q 27 #[.int .i64 (k), .int .i64 (n), .int .i64 (0), .string (⟨#[]⟩), .string (⟨#[]⟩)] from HO6.out.set_ 1 _) bl)
            have BL := Lib.hid (show B w wl from B_trans (by repeat (first | with_reducible exact B6.out | refine B_setCell ?_ (by first | (simp; done) | (simp; omega)) _ | refine B_drew ?_)) bl)
            clear bl d0 d1 d2 d3 d4 fz hql HR6 HO6 B6 HLN
            have hqo := HOL.out
            have hqr := HRL.out
            have d0 := hqo.cell 0
            have d1 := hqo.cell 1
            have d2 := hqo.cell 2
            have d3 := hqo.cell 3
            have d4 := hqo.cell 4
            have r0 := hqr.cell 0
            have r1 := hqr.cell 1
            have r2 := hqr.cell 2
            have r3 := hqr.cell 3
            have r4 := hqr.cell 4
            have hql := hqo.lt
            have hqr1 := hqr.lt
            have fz := fun i => hqr.frozen i
            simp at d0 d1 d2 d3 d4 r0 r1 r2 r3 r4
            clear hqo hqr
            rcases HH.out with ⟨h1, h2⟩ | ⟨lv, h1, hne, h2⟩ | ⟨h1, h2⟩
            all_goals
              rw [h1]
              have H2 := Lib.hid h2
              clear h1 h2 HH
              go_wp2_with fail
            · refine rparse_end (by rfl) (by rfl) (show Blk _ _ _ #[.int .i64 0, .int .i64 0, .int .i64 0, .string ⟨#[]⟩, .string ⟨#[]⟩] from ((((HRL.out.set_ 0 _).set_ 1 _).set_ 2 _).set_ 3 _).set_ 4 _) ⟨oo, HCD.out, by rw [H2.out]; rfl, ?_⟩
              repeat (first | with_reducible exact BL.out | refine B_setCell ?_ (by first | (simp; done) | (simp; omega)) _ | refine B_drew ?_)
            · refine rparse_end (by rfl) (by rfl) (show Blk _ _ _ #[.int .i64 0, .int .i64 0, .int .i64 0, .string ⟨#[]⟩, .string ⟨#[]⟩] from ((((HRL.out.set_ 0 _).set_ 1 _).set_ 2 _).set_ 3 _).set_ 4 _) ⟨oo, HCD.out, by rw [H2.out]; rfl, ?_⟩
              repeat (first | with_reducible exact BL.out | refine B_setCell ?_ (by first | (simp; done) | (simp; omega)) _ | refine B_drew ?_)
            · refine rparse_end (by rfl) (by rfl) (show Blk _ _ _ #[.int .i64 (k), .int .i64 (n), .int .i64 (0), .string (⟨#[]⟩), .string (⟨#[]⟩)] from ((((HRL.out.set_ 0 _).set_ 1 _).set_ 2 _).set_ 3 _).set_ 4 _) ⟨oo, HCD.out, by rw [H2.out]; exact congrArg (fun z => Ending.returned (.tuple #[z, .int .i64 0])) HOA.out.symm, ?_⟩
              repeat (first | with_reducible exact BL.out | refine B_setCell ?_ (by first | (simp; done) | (simp; omega)) _ | refine B_drew ?_)
end Go.Proofs.YthalpaggcdpcbaaDoor.Tr
