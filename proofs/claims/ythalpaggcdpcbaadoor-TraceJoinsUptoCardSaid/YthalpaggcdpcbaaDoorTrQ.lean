/- trace.Parse. -/
import Derived.Test.YthalpaggcdpcbaaDoorTrN
namespace Go.Proofs.YthalpaggcdpcbaaDoor.Tr
open Go.RowKit Go.Proofs.YthalpaggcdpcbaaDoor Go.Proofs.YthalpaggcdpcbaaDoor.Nm Go.Proofs.YthalpaggcdpcbaaDoor.Cf
def ParsePost (l : ByteArray) (w : World) (e : Ending) (w' : World) : Prop := ∃ o, Cand l.data.toList o ∧ e = .returned (.tuple #[outArg (parseA l o).1, .int .i64 (parseA l o).2]) ∧ Below w.heap.size w w'
theorem line_three (l : ByteArray) (o : OutV) : (lineV o = (e0, 1) ∧ parseA l o = (zeroO, 2)) ∨ (∃ lv, lineV o = (lv, 0) ∧ (lv.toList == l.toList) = false ∧ parseA l o = (zeroO, 2)) ∨ (lineV o = (l, 0) ∧ parseA l o = (o, 0)) := by
  unfold parseA
  cases h : rightV o with
  | false =>
    have : lineV o = (e0, 1) := by unfold lineV; rw [h]; rfl
    rw [this]
    exact .inl ⟨rfl, by rw [if_neg (fun e => by cases e.1)]⟩
  | true =>
    rw [lineV_yes h]
    by_cases he : bs (lineL o) = l
    · exact .inr (.inr ⟨by rw [he], by rw [if_pos ⟨rfl, he⟩]⟩)
    · exact .inr (.inl ⟨_, rfl, by
        rw [str_eq]
        exact decide_eq_false (fun e => he (by rw [← of_bs (bs (lineL o)), e, of_bs])), by rw [if_neg (fun e => he e.2)]⟩)
/-- The parse's walk, up to the output's first cell. -/
def zeroC : Array Value := #[.int .i64 0, .int .i64 0, .int .i64 0, .string ⟨#[]⟩, .string ⟨#[]⟩]
theorem cand_say {l : List UInt8} {k : Int} {u : ByteArray} (hk : idxT (cut1 l).1 = k) (h : k = 5 ∨ k = 6) (hu : u = unescD (cut1 l).2) : Cand l ⟨k, 0, 0, ⟨#[]⟩, u⟩ where
  k := hk.symm
  num := fun e => by simp only at e; omega
  say := fun _ => ⟨rfl, hu⟩
  bare := fun _ => ⟨rfl, rfl⟩
  dial := fun e => by simp only at e; omega
  frame := fun e => by simp only at e; omega
  text := fun e => by simp only at e; omega
theorem cand_gone {l : List UInt8} {k n : Int} (hk : idxT (cut1 l).1 = k) (h : k ≠ 5 ∧ k ≠ 6 ∧ k ≠ 2 ∧ k ≠ 0 ∧ k ≠ 1) (hn : ∀ v : Int, 0 < v → v ≤ 999999999 → (cut1 (cut1 l).2).1 = Lib.itoa v → n = v) : Cand l ⟨k, n, 0, ⟨#[]⟩, ⟨#[]⟩⟩ where
  k := hk.symm
  num := fun _ => hn
  say := fun e => by simp only at e; omega
  bare := fun _ => ⟨rfl, rfl⟩
  dial := fun e => by simp only at e; omega
  frame := fun e => by simp only at e; omega
  text := fun _ => rfl
theorem cand_dial {l : List UInt8} {k n : Int} {u : ByteArray} (hk : idxT (cut1 l).1 = k) (h : k = 2) (hn : ∀ v : Int, 0 < v → v ≤ 999999999 → (cut1 (cut1 l).2).1 = Lib.itoa v → n = v) (hu : u = bs (cut1 (cut1 l).2).2) : Cand l ⟨k, n, 0, ⟨#[]⟩, u⟩ where
  k := hk.symm
  num := fun _ => hn
  say := fun e => by simp only at e; omega
  bare := fun _ => ⟨rfl, rfl⟩
  dial := fun _ => hu
  frame := fun e => by simp only at e; omega
  text := fun e => by simp only at e; omega
theorem cand_frame {l : List UInt8} {k n f : Int} {u : ByteArray} (hk : idxT (cut1 l).1 = k) (h : k = 0 ∨ k = 1) (hn : ∀ v : Int, 0 < v → v ≤ 999999999 → (cut1 (cut1 l).2).1 = Lib.itoa v → n = v) (hf : f = kindT (cut1 (cut1 (cut1 l).2).2).1) (hu : u = unescD (cut1 (cut1 (cut1 l).2).2).2) : Cand l ⟨k, n, f, u, ⟨#[]⟩⟩ where
  k := hk.symm
  num := fun _ => hn
  say := fun e => by simp only at e; omega
  bare := fun e => by simp only at e; omega
  dial := fun e => by simp only at e; omega
  frame := fun _ => ⟨hf, hu⟩
  text := fun _ => rfl
theorem parse_end {tmps : Array Value} {W : World} {b : Nat} {k i f c : Int} {d t : ByteArray} {Q : Ending → World → Prop} (h2 : tmps[2]? = some (.pointer (some ⟨b, 0, none⟩))) (h3 : tmps[3]? = some (.int .i64 c))
    (hC : Blk W b 27 #[.int .i64 k, .int .i64 i, .int .i64 f, .string d, .string t]) (hQ : Q (.returned (.tuple #[.agg #[.int .i64 k, .int .i64 i, .int .i64 f, .string d, .string t], .int .i64 c])) W) :
    bodyPost Tryd.prog Tryd.f20 Q .ret { tmps := tmps, defers := [] } W := by
  have c0 := hC.cell 0
  have c1 := hC.cell 1
  have c2 := hC.cell 2
  have c3 := hC.cell 3
  have c4 := hC.cell 4
  simp at c0 c1 c2 c3 c4
  refine bodyPost_ret (v := .tuple #[.agg #[.int .i64 k, .int .i64 i, .int .i64 f, .string d, .string t], .int .i64 c]) ?_ rfl hQ
  simp [results, Tryd.results20, h2, h3, asAddr, c0, c1, c2, c3, c4, go_sem]
theorem unescV_is (s : ByteArray) : (unescV s).1 = unescD s.data.toList := by
  unfold unescV unescD
  cases unescL s.data.toList <;> rfl
theorem unescV_size (s : ByteArray) : (unescV s).1.size ≤ s.size := by
  unfold unescV
  cases h : unescL s.data.toList with
  | none => exact Nat.zero_le _
  | some o =>
    have h1 := unesc_iff.1 h
    have h2 := (escL_len o).1
    rw [h1] at h2
    simp only [bs_size]
    simpa using h2
set_option maxRecDepth 100000 in
set_option maxHeartbeats 4000000 in
theorem parse_say (l : ByteArray) (hl : l.size ≤ 1000) (hkk : idxT (cut1 l.data.toList).1 = 5 ∨ idxT (cut1 l.data.toList).1 = 6) (w : World) (hv : Vars w) : Calls Tryd.prog 20 #[.string l] w (ParsePost l w) := by
  have hcs := cut_sizes l
  have hcs2 := cut_sizes (cutB l)
  have HC1 := Lib.hid (fun W h => cut_any l (by omega) W h)
  have HC2 := Lib.hid (fun W h => cut_any (cutB l) (by omega) W h)
  have HI := Lib.hid (fun (W : World) (g : Nat) (h : Blk W g 9 (encS wordsT).toArray) (cc : Nat) => word_index h cc (cutA l))
  obtain ⟨k, hk⟩ : ∃ k, idxT (cut1 l.data.toList).1 = k := ⟨_, rfl⟩
  rw [show Lib.idxOfS wordsT (cutA l) = k from hk] at HI
  have ha2 : (cutA (cutB l)).data.toList = (cut1 (cut1 l.data.toList).2).1 := by unfold cutA cutB; rw [bs_list, bs_list]
  have hb2 : (cutB (cutB l)).data.toList = (cut1 (cut1 l.data.toList).2).2 := by unfold cutB; rw [bs_list, bs_list]
  have hb1 : (cutB l).data.toList = (cut1 l.data.toList).2 := by unfold cutB; rw [bs_list]
  have hA1 := Lib.hid (Below.refl w.heap.size w)
  have HV := Lib.hid hv
  clear hv
  rw [hk] at hkk
  have HU := Lib.hid (fun W => unescape_any (cutB l) (by omega) W)
  rcases hkk with rfl | rfl
  · have HR0 := Lib.hid (Blk.new w 27 #[.int .i64 0, .int .i64 0, .int .i64 0, .string ⟨#[]⟩, .string ⟨#[]⟩])
    have HB0 := Lib.hid (B_alloc (B_refl w) (.cells #[.int .i64 0, .int .i64 0, .int .i64 0, .string ⟨#[]⟩, .string ⟨#[]⟩] 27))
    go_enter Tryd.func20, Tryd.ntmps20
    go_wp2_with fail
    refine (HC1.out _ (HV.out.below (by first | exact HB0.out | exact B_drew HB0.out | exact B_drewN HB0.out _))).mono ?_
    rintro e w1 ⟨f1, rfl, b1⟩
    have B1 := Lib.hid (show B w w1 from (B_trans (by first | exact HB0.out | exact B_drew HB0.out | exact B_drewN HB0.out _) b1))
    have HR1 := Lib.hid (HR0.out.b b1)
    clear b1
    go_wp2_with fail
    refine (words_any _).mono ?_
    rintro e w2 ⟨gv, cv, rfl, hcv, hgv, hbv, b2⟩
    have B2 := Lib.hid (show B w w2 from (B_trans (by first | exact B1.out | exact B_drew B1.out | exact B_drewN B1.out _) b2))
    have HR2 := Lib.hid (HR1.out.b b2)
    have HBV := Lib.hid hbv
    clear b2 hcv hgv hbv HR0 HR1 HB0
    go_wp2_with fail
    refine (HI.out _ gv (by exact HBV.out) cv).mono ?_
    rintro e w3 ⟨rfl, rfl⟩
    have HO3 := Lib.hid (Blk.new w3 27 #[.int .i64 (5), .int .i64 0, .int .i64 0, .string ⟨#[]⟩, .string ⟨#[]⟩])
    have HR3 := Lib.hid (HR2.out.alloc (.cells #[.int .i64 (5), .int .i64 0, .int .i64 0, .string ⟨#[]⟩, .string ⟨#[]⟩] 27))
    have B3 := Lib.hid (B_alloc B2.out (.cells #[.int .i64 (5), .int .i64 0, .int .i64 0, .string ⟨#[]⟩, .string ⟨#[]⟩] 27))
    have hq := HR2.out.lt
    clear HI HBV HR2
    go_wp2_with fail
    refine (HC2.out _ (HV.out.below (by first | exact B3.out | exact B_drew B3.out | exact B_drewN B3.out _))).mono ?_
    rintro e w4 ⟨f2, rfl, b4⟩
    have B4 := Lib.hid (show B w w4 from (B_trans (by first | exact B3.out | exact B_drew B3.out | exact B_drewN B3.out _) b4))
    have HR4 := Lib.hid (HR3.out.b b4)
    have HO4 := Lib.hid (HO3.out.b b4)
    clear b4 HO3 HR3 B3 B2 B1 HC1 HC2
    generalize w3.heap.size = q at *
    have hqo := HO4.out
    have d0 := hqo.cell 0
    have d1 := hqo.cell 1
    have d2 := hqo.cell 2
    have d3 := hqo.cell 3
    have d4 := hqo.cell 4
    have hql := hqo.lt
    have fz := fun i => hqo.frozen i
    simp at d0 d1 d2 d3 d4
    clear hqo
    go_wp2_with fail
    refine (HU.out _).mono ?_
    rintro e w5 ⟨rfl, b5⟩
    have B5 := Lib.hid (show B w w5 from (B_trans (by first | exact B4.out | exact B_drew B4.out | exact B_drewN B4.out _) b5))
    have HR5 := Lib.hid (HR4.out.b b5)
    have HO5 := Lib.hid (HO4.out.b b5)
    clear b5 HR4 HO4 B4 d0 d1 d2 d3 d4 hql fz
    have hqo := HO5.out
    have d0 := hqo.cell 0
    have d1 := hqo.cell 1
    have d2 := hqo.cell 2
    have d3 := hqo.cell 3
    have d4 := hqo.cell 4
    have hql := hqo.lt
    have fz := fun i => hqo.frozen i
    simp at d0 d1 d2 d3 d4
    clear hqo
    obtain ⟨u, c, hu⟩ : ∃ u c, unescV (cutB l) = (u, c) := ⟨_, _, rfl⟩
    rw [hu]
    dsimp only
    have hus : u.size ≤ 1000 := by
      have := unescV_size (cutB l)
      rw [hu] at this
      simp only at this
      omega
    have HUT := Lib.hid (show u = unescD (cut1 l.data.toList).2 by
      rw [← hb1, ← unescV_is, hu])
    clear hu
    have HVC := Lib.hid (show VarsC w from HV.out.tab)
    obtain ⟨oo, hoo⟩ : ∃ oo : OutV, oo = ⟨5, 0, 0, ⟨#[]⟩, u⟩ := ⟨_, rfl⟩
    have HCD := Lib.hid (show Cand l.data.toList oo by rw [hoo]; exact (cand_say hk (.inl rfl) HUT.out))
    have HLN := Lib.hid (fun W h => line_any oo (by rw [hoo]; simp only; first | omega | decide) (by rw [hoo]; simp only; first | omega | decide) W h)
    unfold LinePost at HLN
    have HH := Lib.hid (line_three l oo)
    rw [show outArg oo = .agg #[.int .i64 (5), .int .i64 (0), .int .i64 (0), .string (⟨#[]⟩), .string (u)] by rw [hoo]; rfl] at HLN
    have HOA := Lib.hid (show outArg oo = .agg #[.int .i64 (5), .int .i64 (0), .int .i64 (0), .string (⟨#[]⟩), .string (u)] by rw [hoo]; rfl)
    clear hoo
    go_wp2_with fail
    refine (HLN.out _ (VarsC.below HVC.out (by repeat (first | with_reducible exact B5.out | refine B_setCell ?_ (by first | (simp; done) | (simp; omega)) _ | refine B_drew ?_)))).mono ?_
    rintro e wl ⟨rfl, bl⟩
    have HRL := Lib.hid (Blk.b (show Blk _ w.heap.size 27 #[.int .i64 0, .int .i64 0, .int .i64 0, .string ⟨#[]⟩, .string ⟨#[]⟩] by repeat (first | with_reducible exact HR5.out | refine Blk.far ?_ (by simp; omega) _ | refine Blk.drew ?_)) bl)
    have HOL := Lib.hid (Blk.b (show Blk _ q 27 #[.int .i64 (5), .int .i64 (0), .int .i64 (0), .string (⟨#[]⟩), .string (u)] from HO5.out.set_ 4 _) bl)
    have BL := Lib.hid (show B w wl from B_trans (by repeat (first | with_reducible exact B5.out | refine B_setCell ?_ (by first | (simp; done) | (simp; omega)) _ | refine B_drew ?_)) bl)
    clear bl d0 d1 d2 d3 d4 fz hql HR5 HO5 B5 HLN
    have hqo := HOL.out
    have hqr := HRL.out
    have d0 := hqo.cell 0
    have d1 := hqo.cell 1
    have d2 := hqo.cell 2
    have d3 := hqo.cell 3
    have d4 := hqo.cell 4
    have r0 := hqr.cell 0
    have r1 := hqr.cell 1
    have r2 := hqr.cell 2
    have r3 := hqr.cell 3
    have r4 := hqr.cell 4
    have hql := hqo.lt
    have hqr1 := hqr.lt
    have fz := fun i => hqr.frozen i
    simp at d0 d1 d2 d3 d4 r0 r1 r2 r3 r4
    clear hqo hqr
    rcases HH.out with ⟨h1, h2⟩ | ⟨lv, h1, hne, h2⟩ | ⟨h1, h2⟩
    all_goals
      rw [h1]
      have H2 := Lib.hid h2
      clear h1 h2 HH
      go_wp2_with fail
    · refine parse_end (by rfl) (by rfl) (show Blk _ _ _ #[.int .i64 0, .int .i64 0, .int .i64 0, .string ⟨#[]⟩, .string ⟨#[]⟩] from ((((HRL.out.set_ 0 _).set_ 1 _).set_ 2 _).set_ 3 _).set_ 4 _) ⟨oo, HCD.out, by rw [H2.out]; rfl, ?_⟩
      repeat (first | with_reducible exact BL.out | refine B_setCell ?_ (by first | (simp; done) | (simp; omega)) _ | refine B_drew ?_)
    · refine parse_end (by rfl) (by rfl) (show Blk _ _ _ #[.int .i64 0, .int .i64 0, .int .i64 0, .string ⟨#[]⟩, .string ⟨#[]⟩] from ((((HRL.out.set_ 0 _).set_ 1 _).set_ 2 _).set_ 3 _).set_ 4 _) ⟨oo, HCD.out, by rw [H2.out]; rfl, ?_⟩
      repeat (first | with_reducible exact BL.out | refine B_setCell ?_ (by first | (simp; done) | (simp; omega)) _ | refine B_drew ?_)
    · refine parse_end (by rfl) (by rfl) (show Blk _ _ _ #[.int .i64 (5), .int .i64 (0), .int .i64 (0), .string (⟨#[]⟩), .string (u)] from ((((HRL.out.set_ 0 _).set_ 1 _).set_ 2 _).set_ 3 _).set_ 4 _) ⟨oo, HCD.out, by rw [H2.out]; exact congrArg (fun z => Ending.returned (.tuple #[z, .int .i64 0])) HOA.out.symm, ?_⟩
      repeat (first | with_reducible exact BL.out | refine B_setCell ?_ (by first | (simp; done) | (simp; omega)) _ | refine B_drew ?_)
  · have HR0 := Lib.hid (Blk.new w 27 #[.int .i64 0, .int .i64 0, .int .i64 0, .string ⟨#[]⟩, .string ⟨#[]⟩])
    have HB0 := Lib.hid (B_alloc (B_refl w) (.cells #[.int .i64 0, .int .i64 0, .int .i64 0, .string ⟨#[]⟩, .string ⟨#[]⟩] 27))
    go_enter Tryd.func20, Tryd.ntmps20
    go_wp2_with fail
    refine (HC1.out _ (HV.out.below (by first | exact HB0.out | exact B_drew HB0.out | exact B_drewN HB0.out _))).mono ?_
    rintro e w1 ⟨f1, rfl, b1⟩
    have B1 := Lib.hid (show B w w1 from (B_trans (by first | exact HB0.out | exact B_drew HB0.out | exact B_drewN HB0.out _) b1))
    have HR1 := Lib.hid (HR0.out.b b1)
    clear b1
    go_wp2_with fail
    refine (words_any _).mono ?_
    rintro e w2 ⟨gv, cv, rfl, hcv, hgv, hbv, b2⟩
    have B2 := Lib.hid (show B w w2 from (B_trans (by first | exact B1.out | exact B_drew B1.out | exact B_drewN B1.out _) b2))
    have HR2 := Lib.hid (HR1.out.b b2)
    have HBV := Lib.hid hbv
    clear b2 hcv hgv hbv HR0 HR1 HB0
    go_wp2_with fail
    refine (HI.out _ gv (by exact HBV.out) cv).mono ?_
    rintro e w3 ⟨rfl, rfl⟩
    have HO3 := Lib.hid (Blk.new w3 27 #[.int .i64 (6), .int .i64 0, .int .i64 0, .string ⟨#[]⟩, .string ⟨#[]⟩])
    have HR3 := Lib.hid (HR2.out.alloc (.cells #[.int .i64 (6), .int .i64 0, .int .i64 0, .string ⟨#[]⟩, .string ⟨#[]⟩] 27))
    have B3 := Lib.hid (B_alloc B2.out (.cells #[.int .i64 (6), .int .i64 0, .int .i64 0, .string ⟨#[]⟩, .string ⟨#[]⟩] 27))
    have hq := HR2.out.lt
    clear HI HBV HR2
    go_wp2_with fail
    refine (HC2.out _ (HV.out.below (by first | exact B3.out | exact B_drew B3.out | exact B_drewN B3.out _))).mono ?_
    rintro e w4 ⟨f2, rfl, b4⟩
    have B4 := Lib.hid (show B w w4 from (B_trans (by first | exact B3.out | exact B_drew B3.out | exact B_drewN B3.out _) b4))
    have HR4 := Lib.hid (HR3.out.b b4)
    have HO4 := Lib.hid (HO3.out.b b4)
    clear b4 HO3 HR3 B3 B2 B1 HC1 HC2
    generalize w3.heap.size = q at *
    have hqo := HO4.out
    have d0 := hqo.cell 0
    have d1 := hqo.cell 1
    have d2 := hqo.cell 2
    have d3 := hqo.cell 3
    have d4 := hqo.cell 4
    have hql := hqo.lt
    have fz := fun i => hqo.frozen i
    simp at d0 d1 d2 d3 d4
    clear hqo
    go_wp2_with fail
    refine (HU.out _).mono ?_
    rintro e w5 ⟨rfl, b5⟩
    have B5 := Lib.hid (show B w w5 from (B_trans (by first | exact B4.out | exact B_drew B4.out | exact B_drewN B4.out _) b5))
    have HR5 := Lib.hid (HR4.out.b b5)
    have HO5 := Lib.hid (HO4.out.b b5)
    clear b5 HR4 HO4 B4 d0 d1 d2 d3 d4 hql fz
    have hqo := HO5.out
    have d0 := hqo.cell 0
    have d1 := hqo.cell 1
    have d2 := hqo.cell 2
    have d3 := hqo.cell 3
    have d4 := hqo.cell 4
    have hql := hqo.lt
    have fz := fun i => hqo.frozen i
    simp at d0 d1 d2 d3 d4
    clear hqo
    obtain ⟨u, c, hu⟩ : ∃ u c, unescV (cutB l) = (u, c) := ⟨_, _, rfl⟩
    rw [hu]
    dsimp only
    have hus : u.size ≤ 1000 := by
      have := unescV_size (cutB l)
      rw [hu] at this
      simp only at this
      omega
    have HUT := Lib.hid (show u = unescD (cut1 l.data.toList).2 by
      rw [← hb1, ← unescV_is, hu])
    clear hu
    have HVC := Lib.hid (show VarsC w from HV.out.tab)
    obtain ⟨oo, hoo⟩ : ∃ oo : OutV, oo = ⟨6, 0, 0, ⟨#[]⟩, u⟩ := ⟨_, rfl⟩
    have HCD := Lib.hid (show Cand l.data.toList oo by rw [hoo]; exact (cand_say hk (.inr rfl) HUT.out))
    have HLN := Lib.hid (fun W h => line_any oo (by rw [hoo]; simp only; first | omega | decide) (by rw [hoo]; simp only; first | omega | decide) W h)
    unfold LinePost at HLN
    have HH := Lib.hid (line_three l oo)
    rw [show outArg oo = .agg #[.int .i64 (6), .int .i64 (0), .int .i64 (0), .string (⟨#[]⟩), .string (u)] by rw [hoo]; rfl] at HLN
    have HOA := Lib.hid (show outArg oo = .agg #[.int .i64 (6), .int .i64 (0), .int .i64 (0), .string (⟨#[]⟩), .string (u)] by rw [hoo]; rfl)
    clear hoo
    go_wp2_with fail
    refine (HLN.out _ (VarsC.below HVC.out (by repeat (first | with_reducible exact B5.out | refine B_setCell ?_ (by first | (simp; done) | (simp; omega)) _ | refine B_drew ?_)))).mono ?_
    rintro e wl ⟨rfl, bl⟩
    have HRL := Lib.hid (Blk.b (show Blk _ w.heap.size 27 #[.int .i64 0, .int .i64 0, .int .i64 0, .string ⟨#[]⟩, .string ⟨#[]⟩] by repeat (first | with_reducible exact HR5.out | refine Blk.far ?_ (by simp; omega) _ | refine Blk.drew ?_)) bl)
    have HOL := Lib.hid (Blk.b (show Blk _ q 27 #[.int .i64 (6), .int .i64 (0), .int .i64 (0), .string (⟨#[]⟩), .string (u)] from HO5.out.set_ 4 _) bl)
    have BL := Lib.hid (show B w wl from B_trans (by repeat (first | with_reducible exact B5.out | refine B_setCell ?_ (by first | (simp; done) | (simp; omega)) _ | refine B_drew ?_)) bl)
    clear bl d0 d1 d2 d3 d4 fz hql HR5 HO5 B5 HLN
    have hqo := HOL.out
    have hqr := HRL.out
    have d0 := hqo.cell 0
    have d1 := hqo.cell 1
    have d2 := hqo.cell 2
    have d3 := hqo.cell 3
    have d4 := hqo.cell 4
    have r0 := hqr.cell 0
    have r1 := hqr.cell 1
    have r2 := hqr.cell 2
    have r3 := hqr.cell 3
    have r4 := hqr.cell 4
    have hql := hqo.lt
    have hqr1 := hqr.lt
    have fz := fun i => hqr.frozen i
    simp at d0 d1 d2 d3 d4 r0 r1 r2 r3 r4
    clear hqo hqr
    rcases HH.out with ⟨h1, h2⟩ | ⟨lv, h1, hne, h2⟩ | ⟨h1, h2⟩
    all_goals
      rw [h1]
      have H2 := Lib.hid h2
      clear h1 h2 HH
      go_wp2_with fail
    · refine parse_end (by rfl) (by rfl) (show Blk _ _ _ #[.int .i64 0, .int .i64 0, .int .i64 0, .string ⟨#[]⟩, .string ⟨#[]⟩] from ((((HRL.out.set_ 0 _).set_ 1 _).set_ 2 _).set_ 3 _).set_ 4 _) ⟨oo, HCD.out, by rw [H2.out]; rfl, ?_⟩
      repeat (first | with_reducible exact BL.out | refine B_setCell ?_ (by first | (simp; done) | (simp; omega)) _ | refine B_drew ?_)
    · refine parse_end (by rfl) (by rfl) (show Blk _ _ _ #[.int .i64 0, .int .i64 0, .int .i64 0, .string ⟨#[]⟩, .string ⟨#[]⟩] from ((((HRL.out.set_ 0 _).set_ 1 _).set_ 2 _).set_ 3 _).set_ 4 _) ⟨oo, HCD.out, by rw [H2.out]; rfl, ?_⟩
      repeat (first | with_reducible exact BL.out | refine B_setCell ?_ (by first | (simp; done) | (simp; omega)) _ | refine B_drew ?_)
    · refine parse_end (by rfl) (by rfl) (show Blk _ _ _ #[.int .i64 (6), .int .i64 (0), .int .i64 (0), .string (⟨#[]⟩), .string (u)] from ((((HRL.out.set_ 0 _).set_ 1 _).set_ 2 _).set_ 3 _).set_ 4 _) ⟨oo, HCD.out, by rw [H2.out]; exact congrArg (fun z => Ending.returned (.tuple #[z, .int .i64 0])) HOA.out.symm, ?_⟩
      repeat (first | with_reducible exact BL.out | refine B_setCell ?_ (by first | (simp; done) | (simp; omega)) _ | refine B_drew ?_)
set_option maxRecDepth 100000 in
set_option maxHeartbeats 4000000 in
theorem parse_dial (l : ByteArray) (hl : l.size ≤ 1000) (hkk : idxT (cut1 l.data.toList).1 = 2) (w : World) (hv : Vars w) : Calls Tryd.prog 20 #[.string l] w (ParsePost l w) := by
  have hcs := cut_sizes l
  have hcs2 := cut_sizes (cutB l)
  have HC1 := Lib.hid (fun W h => cut_any l (by omega) W h)
  have HC2 := Lib.hid (fun W h => cut_any (cutB l) (by omega) W h)
  have HI := Lib.hid (fun (W : World) (g : Nat) (h : Blk W g 9 (encS wordsT).toArray) (cc : Nat) => word_index h cc (cutA l))
  obtain ⟨k, hk⟩ : ∃ k, idxT (cut1 l.data.toList).1 = k := ⟨_, rfl⟩
  rw [show Lib.idxOfS wordsT (cutA l) = k from hk] at HI
  have ha2 : (cutA (cutB l)).data.toList = (cut1 (cut1 l.data.toList).2).1 := by unfold cutA cutB; rw [bs_list, bs_list]
  have hb2 : (cutB (cutB l)).data.toList = (cut1 (cut1 l.data.toList).2).2 := by unfold cutB; rw [bs_list, bs_list]
  have hb1 : (cutB l).data.toList = (cut1 l.data.toList).2 := by unfold cutB; rw [bs_list]
  have hA1 := Lib.hid (Below.refl w.heap.size w)
  have HV := Lib.hid hv
  clear hv
  rw [hk] at hkk
  have HN := Lib.hid (fun W h => number_any (cutA (cutB l)) (by omega) W h)
  have hb2s : (cutB (cutB l)).size ≤ 1000 := by omega
  have HB2 := Lib.hid (show cutB (cutB l) = bs (cut1 (cut1 l.data.toList).2).2 by rw [← hb2, of_bs])
  subst hkk
  have HR0 := Lib.hid (Blk.new w 27 #[.int .i64 0, .int .i64 0, .int .i64 0, .string ⟨#[]⟩, .string ⟨#[]⟩])
  have HB0 := Lib.hid (B_alloc (B_refl w) (.cells #[.int .i64 0, .int .i64 0, .int .i64 0, .string ⟨#[]⟩, .string ⟨#[]⟩] 27))
  go_enter Tryd.func20, Tryd.ntmps20
  go_wp2_with fail
  refine (HC1.out _ (HV.out.below (by first | exact HB0.out | exact B_drew HB0.out | exact B_drewN HB0.out _))).mono ?_
  rintro e w1 ⟨f1, rfl, b1⟩
  have B1 := Lib.hid (show B w w1 from (B_trans (by first | exact HB0.out | exact B_drew HB0.out | exact B_drewN HB0.out _) b1))
  have HR1 := Lib.hid (HR0.out.b b1)
  clear b1
  go_wp2_with fail
  refine (words_any _).mono ?_
  rintro e w2 ⟨gv, cv, rfl, hcv, hgv, hbv, b2⟩
  have B2 := Lib.hid (show B w w2 from (B_trans (by first | exact B1.out | exact B_drew B1.out | exact B_drewN B1.out _) b2))
  have HR2 := Lib.hid (HR1.out.b b2)
  have HBV := Lib.hid hbv
  clear b2 hcv hgv hbv HR0 HR1 HB0
  go_wp2_with fail
  refine (HI.out _ gv (by exact HBV.out) cv).mono ?_
  rintro e w3 ⟨rfl, rfl⟩
  have HO3 := Lib.hid (Blk.new w3 27 #[.int .i64 (2), .int .i64 0, .int .i64 0, .string ⟨#[]⟩, .string ⟨#[]⟩])
  have HR3 := Lib.hid (HR2.out.alloc (.cells #[.int .i64 (2), .int .i64 0, .int .i64 0, .string ⟨#[]⟩, .string ⟨#[]⟩] 27))
  have B3 := Lib.hid (B_alloc B2.out (.cells #[.int .i64 (2), .int .i64 0, .int .i64 0, .string ⟨#[]⟩, .string ⟨#[]⟩] 27))
  have hq := HR2.out.lt
  clear HI HBV HR2
  go_wp2_with fail
  refine (HC2.out _ (HV.out.below (by first | exact B3.out | exact B_drew B3.out | exact B_drewN B3.out _))).mono ?_
  rintro e w4 ⟨f2, rfl, b4⟩
  have B4 := Lib.hid (show B w w4 from (B_trans (by first | exact B3.out | exact B_drew B3.out | exact B_drewN B3.out _) b4))
  have HR4 := Lib.hid (HR3.out.b b4)
  have HO4 := Lib.hid (HO3.out.b b4)
  clear b4 HO3 HR3 B3 B2 B1 HC1 HC2
  generalize w3.heap.size = q at *
  have hqo := HO4.out
  have d0 := hqo.cell 0
  have d1 := hqo.cell 1
  have d2 := hqo.cell 2
  have d3 := hqo.cell 3
  have d4 := hqo.cell 4
  have hql := hqo.lt
  have fz := fun i => hqo.frozen i
  simp at d0 d1 d2 d3 d4
  clear hqo
  go_wp2_with fail
  refine (HN.out _ (HV.out.below B4.out)).mono ?_
  rintro e w5 ⟨n, rfl, hn, b5⟩
  have HNI := Lib.hid hn
  clear hn
  have B5 := Lib.hid (show B w w5 from (B_trans (by first | exact B4.out | exact B_drew B4.out | exact B_drewN B4.out _) b5))
  have HR5 := Lib.hid (HR4.out.b b5)
  have HO5 := Lib.hid (HO4.out.b b5)
  clear b5 HR4 HO4 B4 d0 d1 d2 d3 d4 hql fz
  have hqo := HO5.out
  have d0 := hqo.cell 0
  have d1 := hqo.cell 1
  have d2 := hqo.cell 2
  have d3 := hqo.cell 3
  have d4 := hqo.cell 4
  have hql := hqo.lt
  have fz := fun i => hqo.frozen i
  simp at d0 d1 d2 d3 d4
  clear hqo
  have HVC := Lib.hid (show VarsC w from HV.out.tab)
  have HA2 := Lib.hid ha2
  clear ha2 hb2 hb1 hcs hcs2
  generalize cutB (cutB l) = u at *
  obtain ⟨oo, hoo⟩ : ∃ oo : OutV, oo = ⟨2, n, 0, ⟨#[]⟩, u⟩ := ⟨_, rfl⟩
  have HCD := Lib.hid (show Cand l.data.toList oo by rw [hoo]; exact (cand_dial hk rfl (fun v h0 h9 h => HNI.out v h0 h9 (HA2.out.trans h)) HB2.out))
  have HLN := Lib.hid (fun W h => line_any oo (by rw [hoo]; simp only; first | omega | decide) (by rw [hoo]; simp only; first | omega | decide) W h)
  unfold LinePost at HLN
  have HH := Lib.hid (line_three l oo)
  rw [show outArg oo = .agg #[.int .i64 (2), .int .i64 (n), .int .i64 (0), .string (⟨#[]⟩), .string (u)] by rw [hoo]; rfl] at HLN
  have HOA := Lib.hid (show outArg oo = .agg #[.int .i64 (2), .int .i64 (n), .int .i64 (0), .string (⟨#[]⟩), .string (u)] by rw [hoo]; rfl)
  clear hoo
  go_wp2_with fail
  refine (HLN.out _ (VarsC.below HVC.out (by repeat (first | with_reducible exact B5.out | refine B_setCell ?_ (by first | (simp; done) | (simp; omega)) _ | refine B_drew ?_)))).mono ?_
  rintro e wl ⟨rfl, bl⟩
  have HRL := Lib.hid (Blk.b (show Blk _ w.heap.size 27 #[.int .i64 0, .int .i64 0, .int .i64 0, .string ⟨#[]⟩, .string ⟨#[]⟩] by repeat (first | with_reducible exact HR5.out | refine Blk.far ?_ (by simp; omega) _ | refine Blk.drew ?_)) bl)
  have HOL := Lib.hid (Blk.b (show Blk _ q 27 #[.int .i64 (2), .int .i64 (n), .int .i64 (0), .string (⟨#[]⟩), .string (u)] from (HO5.out.set_ 1 _).set_ 4 _) bl)
  have BL := Lib.hid (show B w wl from B_trans (by repeat (first | with_reducible exact B5.out | refine B_setCell ?_ (by first | (simp; done) | (simp; omega)) _ | refine B_drew ?_)) bl)
  clear bl d0 d1 d2 d3 d4 fz hql HR5 HO5 B5 HLN
  have hqo := HOL.out
  have hqr := HRL.out
  have d0 := hqo.cell 0
  have d1 := hqo.cell 1
  have d2 := hqo.cell 2
  have d3 := hqo.cell 3
  have d4 := hqo.cell 4
  have r0 := hqr.cell 0
  have r1 := hqr.cell 1
  have r2 := hqr.cell 2
  have r3 := hqr.cell 3
  have r4 := hqr.cell 4
  have hql := hqo.lt
  have hqr1 := hqr.lt
  have fz := fun i => hqr.frozen i
  simp at d0 d1 d2 d3 d4 r0 r1 r2 r3 r4
  clear hqo hqr
  rcases HH.out with ⟨h1, h2⟩ | ⟨lv, h1, hne, h2⟩ | ⟨h1, h2⟩
  all_goals
    rw [h1]
    have H2 := Lib.hid h2
    clear h1 h2 HH
    go_wp2_with fail
  · refine parse_end (by rfl) (by rfl) (show Blk _ _ _ #[.int .i64 0, .int .i64 0, .int .i64 0, .string ⟨#[]⟩, .string ⟨#[]⟩] from ((((HRL.out.set_ 0 _).set_ 1 _).set_ 2 _).set_ 3 _).set_ 4 _) ⟨oo, HCD.out, by rw [H2.out]; rfl, ?_⟩
    repeat (first | with_reducible exact BL.out | refine B_setCell ?_ (by first | (simp; done) | (simp; omega)) _ | refine B_drew ?_)
  · refine parse_end (by rfl) (by rfl) (show Blk _ _ _ #[.int .i64 0, .int .i64 0, .int .i64 0, .string ⟨#[]⟩, .string ⟨#[]⟩] from ((((HRL.out.set_ 0 _).set_ 1 _).set_ 2 _).set_ 3 _).set_ 4 _) ⟨oo, HCD.out, by rw [H2.out]; rfl, ?_⟩
    repeat (first | with_reducible exact BL.out | refine B_setCell ?_ (by first | (simp; done) | (simp; omega)) _ | refine B_drew ?_)
  · refine parse_end (by rfl) (by rfl) (show Blk _ _ _ #[.int .i64 (2), .int .i64 (n), .int .i64 (0), .string (⟨#[]⟩), .string (u)] from ((((HRL.out.set_ 0 _).set_ 1 _).set_ 2 _).set_ 3 _).set_ 4 _) ⟨oo, HCD.out, by rw [H2.out]; exact congrArg (fun z => Ending.returned (.tuple #[z, .int .i64 0])) HOA.out.symm, ?_⟩
    repeat (first | with_reducible exact BL.out | refine B_setCell ?_ (by first | (simp; done) | (simp; omega)) _ | refine B_drew ?_)
set_option maxRecDepth 100000 in
set_option maxHeartbeats 4000000 in
theorem parse_gone (l : ByteArray) (hl : l.size ≤ 1000) (k0 : Int) (hk0 : idxT (cut1 l.data.toList).1 = k0) (hkk : k0 ≠ 5 ∧ k0 ≠ 6 ∧ k0 ≠ 2 ∧ k0 ≠ 0 ∧ k0 ≠ 1) (w : World) (hv : Vars w) : Calls Tryd.prog 20 #[.string l] w (ParsePost l w) := by
  have hcs := cut_sizes l
  have hcs2 := cut_sizes (cutB l)
  have HC1 := Lib.hid (fun W h => cut_any l (by omega) W h)
  have HC2 := Lib.hid (fun W h => cut_any (cutB l) (by omega) W h)
  have HI := Lib.hid (fun (W : World) (g : Nat) (h : Blk W g 9 (encS wordsT).toArray) (cc : Nat) => word_index h cc (cutA l))
  obtain ⟨k, hk⟩ : ∃ k, idxT (cut1 l.data.toList).1 = k := ⟨_, rfl⟩
  rw [show Lib.idxOfS wordsT (cutA l) = k from hk] at HI
  have ha2 : (cutA (cutB l)).data.toList = (cut1 (cut1 l.data.toList).2).1 := by unfold cutA cutB; rw [bs_list, bs_list]
  have hb2 : (cutB (cutB l)).data.toList = (cut1 (cut1 l.data.toList).2).2 := by unfold cutB; rw [bs_list, bs_list]
  have hb1 : (cutB l).data.toList = (cut1 l.data.toList).2 := by unfold cutB; rw [bs_list]
  have hA1 := Lib.hid (Below.refl w.heap.size w)
  have HV := Lib.hid hv
  clear hv
  rw [hk] at hk0
  subst hk0
  have HN := Lib.hid (fun W h => number_any (cutA (cutB l)) (by omega) W h)
  have HKK := Lib.hid hkk
  have t5 : (k == 5) = false := beq_eq_false_iff_ne.2 hkk.1
  have t6 : (k == 6) = false := beq_eq_false_iff_ne.2 hkk.2.1
  have t2 : (k == 2) = false := beq_eq_false_iff_ne.2 hkk.2.2.1
  have t0 : (k == 0) = false := beq_eq_false_iff_ne.2 hkk.2.2.2.1
  have t1 : (k == 1) = false := beq_eq_false_iff_ne.2 hkk.2.2.2.2
  clear hkk
  have HR0 := Lib.hid (Blk.new w 27 #[.int .i64 0, .int .i64 0, .int .i64 0, .string ⟨#[]⟩, .string ⟨#[]⟩])
  have HB0 := Lib.hid (B_alloc (B_refl w) (.cells #[.int .i64 0, .int .i64 0, .int .i64 0, .string ⟨#[]⟩, .string ⟨#[]⟩] 27))
  go_enter Tryd.func20, Tryd.ntmps20
  go_wp2_with fail
  refine (HC1.out _ (HV.out.below (by first | exact HB0.out | exact B_drew HB0.out | exact B_drewN HB0.out _))).mono ?_
  rintro e w1 ⟨f1, rfl, b1⟩
  have B1 := Lib.hid (show B w w1 from (B_trans (by first | exact HB0.out | exact B_drew HB0.out | exact B_drewN HB0.out _) b1))
  have HR1 := Lib.hid (HR0.out.b b1)
  clear b1
  go_wp2_with fail
  refine (words_any _).mono ?_
  rintro e w2 ⟨gv, cv, rfl, hcv, hgv, hbv, b2⟩
  have B2 := Lib.hid (show B w w2 from (B_trans (by first | exact B1.out | exact B_drew B1.out | exact B_drewN B1.out _) b2))
  have HR2 := Lib.hid (HR1.out.b b2)
  have HBV := Lib.hid hbv
  clear b2 hcv hgv hbv HR0 HR1 HB0
  go_wp2_with fail
  refine (HI.out _ gv (by exact HBV.out) cv).mono ?_
  rintro e w3 ⟨rfl, rfl⟩
  have HO3 := Lib.hid (Blk.new w3 27 #[.int .i64 (k), .int .i64 0, .int .i64 0, .string ⟨#[]⟩, .string ⟨#[]⟩])
  have HR3 := Lib.hid (HR2.out.alloc (.cells #[.int .i64 (k), .int .i64 0, .int .i64 0, .string ⟨#[]⟩, .string ⟨#[]⟩] 27))
  have B3 := Lib.hid (B_alloc B2.out (.cells #[.int .i64 (k), .int .i64 0, .int .i64 0, .string ⟨#[]⟩, .string ⟨#[]⟩] 27))
  have hq := HR2.out.lt
  clear HI HBV HR2
  go_wp2_with fail
  refine (HC2.out _ (HV.out.below (by first | exact B3.out | exact B_drew B3.out | exact B_drewN B3.out _))).mono ?_
  rintro e w4 ⟨f2, rfl, b4⟩
  have B4 := Lib.hid (show B w w4 from (B_trans (by first | exact B3.out | exact B_drew B3.out | exact B_drewN B3.out _) b4))
  have HR4 := Lib.hid (HR3.out.b b4)
  have HO4 := Lib.hid (HO3.out.b b4)
  clear b4 HO3 HR3 B3 B2 B1 HC1 HC2
  generalize w3.heap.size = q at *
  have hqo := HO4.out
  have d0 := hqo.cell 0
  have d1 := hqo.cell 1
  have d2 := hqo.cell 2
  have d3 := hqo.cell 3
  have d4 := hqo.cell 4
  have hql := hqo.lt
  have fz := fun i => hqo.frozen i
  simp at d0 d1 d2 d3 d4
  clear hqo
  go_wp2_with fail
  refine (HN.out _ (HV.out.below B4.out)).mono ?_
  rintro e w5 ⟨n, rfl, hn, b5⟩
  have HNI := Lib.hid hn
  clear hn
  have B5 := Lib.hid (show B w w5 from (B_trans (by first | exact B4.out | exact B_drew B4.out | exact B_drewN B4.out _) b5))
  have HR5 := Lib.hid (HR4.out.b b5)
  have HO5 := Lib.hid (HO4.out.b b5)
  clear b5 HR4 HO4 B4 d0 d1 d2 d3 d4 hql fz
  have hqo := HO5.out
  have d0 := hqo.cell 0
  have d1 := hqo.cell 1
  have d2 := hqo.cell 2
  have d3 := hqo.cell 3
  have d4 := hqo.cell 4
  have hql := hqo.lt
  have fz := fun i => hqo.frozen i
  simp at d0 d1 d2 d3 d4
  clear hqo
  have HVC := Lib.hid (show VarsC w from HV.out.tab)
  obtain ⟨oo, hoo⟩ : ∃ oo : OutV, oo = ⟨k, n, 0, ⟨#[]⟩, ⟨#[]⟩⟩ := ⟨_, rfl⟩
  have HCD := Lib.hid (show Cand l.data.toList oo by rw [hoo]; exact (cand_gone hk HKK.out (fun v h0 h9 h => HNI.out v h0 h9 (ha2.trans h))))
  have HLN := Lib.hid (fun W h => line_any oo (by rw [hoo]; simp only; first | omega | decide) (by rw [hoo]; simp only; first | omega | decide) W h)
  unfold LinePost at HLN
  have HH := Lib.hid (line_three l oo)
  rw [show outArg oo = .agg #[.int .i64 (k), .int .i64 (n), .int .i64 (0), .string (⟨#[]⟩), .string (⟨#[]⟩)] by rw [hoo]; rfl] at HLN
  have HOA := Lib.hid (show outArg oo = .agg #[.int .i64 (k), .int .i64 (n), .int .i64 (0), .string (⟨#[]⟩), .string (⟨#[]⟩)] by rw [hoo]; rfl)
  clear hoo
  go_wp2_with fail
  refine (HLN.out _ (VarsC.below HVC.out (by repeat (first | with_reducible exact B5.out | refine B_setCell ?_ (by first | (simp; done) | (simp; omega)) _ | refine B_drew ?_)))).mono ?_
  rintro e wl ⟨rfl, bl⟩
  have HRL := Lib.hid (Blk.b (show Blk _ w.heap.size 27 #[.int .i64 0, .int .i64 0, .int .i64 0, .string ⟨#[]⟩, .string ⟨#[]⟩] by repeat (first | with_reducible exact HR5.out | refine Blk.far ?_ (by simp; omega) _ | refine Blk.drew ?_)) bl)
  have HOL := Lib.hid (Blk.b (show Blk _ q 27 #[.int .i64 (k), .int .i64 (n), .int .i64 (0), .string (⟨#[]⟩), .string (⟨#[]⟩)] from HO5.out.set_ 1 _) bl)
  have BL := Lib.hid (show B w wl from B_trans (by repeat (first | with_reducible exact B5.out | refine B_setCell ?_ (by first | (simp; done) | (simp; omega)) _ | refine B_drew ?_)) bl)
  clear bl d0 d1 d2 d3 d4 fz hql HR5 HO5 B5 HLN
  have hqo := HOL.out
  have hqr := HRL.out
  have d0 := hqo.cell 0
  have d1 := hqo.cell 1
  have d2 := hqo.cell 2
  have d3 := hqo.cell 3
  have d4 := hqo.cell 4
  have r0 := hqr.cell 0
  have r1 := hqr.cell 1
  have r2 := hqr.cell 2
  have r3 := hqr.cell 3
  have r4 := hqr.cell 4
  have hql := hqo.lt
  have hqr1 := hqr.lt
  have fz := fun i => hqr.frozen i
  simp at d0 d1 d2 d3 d4 r0 r1 r2 r3 r4
  clear hqo hqr
  rcases HH.out with ⟨h1, h2⟩ | ⟨lv, h1, hne, h2⟩ | ⟨h1, h2⟩
  all_goals
    rw [h1]
    have H2 := Lib.hid h2
    clear h1 h2 HH
    go_wp2_with fail
  · refine parse_end (by rfl) (by rfl) (show Blk _ _ _ #[.int .i64 0, .int .i64 0, .int .i64 0, .string ⟨#[]⟩, .string ⟨#[]⟩] from ((((HRL.out.set_ 0 _).set_ 1 _).set_ 2 _).set_ 3 _).set_ 4 _) ⟨oo, HCD.out, by rw [H2.out]; rfl, ?_⟩
    repeat (first | with_reducible exact BL.out | refine B_setCell ?_ (by first | (simp; done) | (simp; omega)) _ | refine B_drew ?_)
  · refine parse_end (by rfl) (by rfl) (show Blk _ _ _ #[.int .i64 0, .int .i64 0, .int .i64 0, .string ⟨#[]⟩, .string ⟨#[]⟩] from ((((HRL.out.set_ 0 _).set_ 1 _).set_ 2 _).set_ 3 _).set_ 4 _) ⟨oo, HCD.out, by rw [H2.out]; rfl, ?_⟩
    repeat (first | with_reducible exact BL.out | refine B_setCell ?_ (by first | (simp; done) | (simp; omega)) _ | refine B_drew ?_)
  · refine parse_end (by rfl) (by rfl) (show Blk _ _ _ #[.int .i64 (k), .int .i64 (n), .int .i64 (0), .string (⟨#[]⟩), .string (⟨#[]⟩)] from ((((HRL.out.set_ 0 _).set_ 1 _).set_ 2 _).set_ 3 _).set_ 4 _) ⟨oo, HCD.out, by rw [H2.out]; exact congrArg (fun z => Ending.returned (.tuple #[z, .int .i64 0])) HOA.out.symm, ?_⟩
    repeat (first | with_reducible exact BL.out | refine B_setCell ?_ (by first | (simp; done) | (simp; omega)) _ | refine B_drew ?_)
set_option maxRecDepth 100000 in
set_option maxHeartbeats 4000000 in
theorem parse_frame (l : ByteArray) (hl : l.size ≤ 1000) (hkk : idxT (cut1 l.data.toList).1 = 0 ∨ idxT (cut1 l.data.toList).1 = 1) (w : World) (hv : Vars w) : Calls Tryd.prog 20 #[.string l] w (ParsePost l w) := by
  have hcs := cut_sizes l
  have hcs2 := cut_sizes (cutB l)
  have HC1 := Lib.hid (fun W h => cut_any l (by omega) W h)
  have HC2 := Lib.hid (fun W h => cut_any (cutB l) (by omega) W h)
  have HI := Lib.hid (fun (W : World) (g : Nat) (h : Blk W g 9 (encS wordsT).toArray) (cc : Nat) => word_index h cc (cutA l))
  obtain ⟨k, hk⟩ : ∃ k, idxT (cut1 l.data.toList).1 = k := ⟨_, rfl⟩
  rw [show Lib.idxOfS wordsT (cutA l) = k from hk] at HI
  have ha2 : (cutA (cutB l)).data.toList = (cut1 (cut1 l.data.toList).2).1 := by unfold cutA cutB; rw [bs_list, bs_list]
  have hb2 : (cutB (cutB l)).data.toList = (cut1 (cut1 l.data.toList).2).2 := by unfold cutB; rw [bs_list, bs_list]
  have hb1 : (cutB l).data.toList = (cut1 l.data.toList).2 := by unfold cutB; rw [bs_list]
  have hA1 := Lib.hid (Below.refl w.heap.size w)
  have HV := Lib.hid hv
  clear hv
  rw [hk] at hkk
  have hcs3 := cut_sizes (cutB (cutB l))
  have HC3 := Lib.hid (fun W h => cut_any (cutB (cutB l)) (by omega) W h)
  have HU := Lib.hid (fun W => unescape_any (cutB (cutB (cutB l))) (by omega) W)
  have HN := Lib.hid (fun W h => number_any (cutA (cutB l)) (by omega) W h)
  have HKD := Lib.hid (fun W => tkind_any (cutA (cutB (cutB l))) W)
  have ha3 : (cutA (cutB (cutB l))).data.toList = (cut1 (cut1 (cut1 l.data.toList).2).2).1 := by rw [← hb2]; unfold cutA; rw [bs_list]
  have hb3 : (cutB (cutB (cutB l))).data.toList = (cut1 (cut1 (cut1 l.data.toList).2).2).2 := by rw [← hb2]; rw [show ∀ s : ByteArray, (cutB s).data.toList = (cut1 s.data.toList).2 from fun s => by unfold cutB; rw [bs_list]]
  obtain ⟨fk, hfk⟩ : ∃ fk, kindT (cutA (cutB (cutB l))).data.toList = fk := ⟨_, rfl⟩
  rw [hfk] at HKD
  rw [ha3] at hfk
  have HFK := Lib.hid hfk
  clear hfk
  rcases hkk with rfl | rfl
  · have HR0 := Lib.hid (Blk.new w 27 #[.int .i64 0, .int .i64 0, .int .i64 0, .string ⟨#[]⟩, .string ⟨#[]⟩])
    have HB0 := Lib.hid (B_alloc (B_refl w) (.cells #[.int .i64 0, .int .i64 0, .int .i64 0, .string ⟨#[]⟩, .string ⟨#[]⟩] 27))
    go_enter Tryd.func20, Tryd.ntmps20
    go_wp2_with fail
    refine (HC1.out _ (HV.out.below (by first | exact HB0.out | exact B_drew HB0.out | exact B_drewN HB0.out _))).mono ?_
    rintro e w1 ⟨f1, rfl, b1⟩
    have B1 := Lib.hid (show B w w1 from (B_trans (by first | exact HB0.out | exact B_drew HB0.out | exact B_drewN HB0.out _) b1))
    have HR1 := Lib.hid (HR0.out.b b1)
    clear b1
    go_wp2_with fail
    refine (words_any _).mono ?_
    rintro e w2 ⟨gv, cv, rfl, hcv, hgv, hbv, b2⟩
    have B2 := Lib.hid (show B w w2 from (B_trans (by first | exact B1.out | exact B_drew B1.out | exact B_drewN B1.out _) b2))
    have HR2 := Lib.hid (HR1.out.b b2)
    have HBV := Lib.hid hbv
    clear b2 hcv hgv hbv HR0 HR1 HB0
    go_wp2_with fail
    refine (HI.out _ gv (by exact HBV.out) cv).mono ?_
    rintro e w3 ⟨rfl, rfl⟩
    have HO3 := Lib.hid (Blk.new w3 27 #[.int .i64 (0), .int .i64 0, .int .i64 0, .string ⟨#[]⟩, .string ⟨#[]⟩])
    have HR3 := Lib.hid (HR2.out.alloc (.cells #[.int .i64 (0), .int .i64 0, .int .i64 0, .string ⟨#[]⟩, .string ⟨#[]⟩] 27))
    have B3 := Lib.hid (B_alloc B2.out (.cells #[.int .i64 (0), .int .i64 0, .int .i64 0, .string ⟨#[]⟩, .string ⟨#[]⟩] 27))
    have hq := HR2.out.lt
    clear HI HBV HR2
    go_wp2_with fail
    refine (HC2.out _ (HV.out.below (by first | exact B3.out | exact B_drew B3.out | exact B_drewN B3.out _))).mono ?_
    rintro e w4 ⟨f2, rfl, b4⟩
    have B4 := Lib.hid (show B w w4 from (B_trans (by first | exact B3.out | exact B_drew B3.out | exact B_drewN B3.out _) b4))
    have HR4 := Lib.hid (HR3.out.b b4)
    have HO4 := Lib.hid (HO3.out.b b4)
    clear b4 HO3 HR3 B3 B2 B1 HC1 HC2
    generalize w3.heap.size = q at *
    have hqo := HO4.out
    have d0 := hqo.cell 0
    have d1 := hqo.cell 1
    have d2 := hqo.cell 2
    have d3 := hqo.cell 3
    have d4 := hqo.cell 4
    have hql := hqo.lt
    have fz := fun i => hqo.frozen i
    simp at d0 d1 d2 d3 d4
    clear hqo
    go_wp2_with fail
    refine (HC3.out _ (HV.out.below B4.out)).mono ?_
    rintro e w5 ⟨f3, rfl, b5⟩
    have B5 := Lib.hid (show B w w5 from (B_trans (by first | exact B4.out | exact B_drew B4.out | exact B_drewN B4.out _) b5))
    have HR5 := Lib.hid (HR4.out.b b5)
    have HO5 := Lib.hid (HO4.out.b b5)
    clear b5 HR4 HO4 B4 d0 d1 d2 d3 d4 hql fz
    have hqo := HO5.out
    have d0 := hqo.cell 0
    have d1 := hqo.cell 1
    have d2 := hqo.cell 2
    have d3 := hqo.cell 3
    have d4 := hqo.cell 4
    have hql := hqo.lt
    have fz := fun i => hqo.frozen i
    simp at d0 d1 d2 d3 d4
    clear hqo
    go_wp2_with fail
    refine (HU.out _).mono ?_
    rintro e w6 ⟨rfl, b6⟩
    have B6 := Lib.hid (show B w w6 from (B_trans (by first | exact B5.out | exact B_drew B5.out | exact B_drewN B5.out _) b6))
    have HR6 := Lib.hid (HR5.out.b b6)
    have HO6 := Lib.hid (HO5.out.b b6)
    clear b6 HR5 HO5 B5 d0 d1 d2 d3 d4 hql fz
    have hqo := HO6.out
    have d0 := hqo.cell 0
    have d1 := hqo.cell 1
    have d2 := hqo.cell 2
    have d3 := hqo.cell 3
    have d4 := hqo.cell 4
    have hql := hqo.lt
    have fz := fun i => hqo.frozen i
    simp at d0 d1 d2 d3 d4
    clear hqo
    obtain ⟨u, c, hu⟩ : ∃ u c, unescV (cutB (cutB (cutB l))) = (u, c) := ⟨_, _, rfl⟩
    rw [hu]
    dsimp only
    have hus : u.size ≤ 1000 := by
      have := unescV_size (cutB (cutB (cutB l)))
      rw [hu] at this
      simp only at this
      omega
    have HUT := Lib.hid (show u = unescD (cut1 (cut1 (cut1 l.data.toList).2).2).2 by
      rw [← hb3, ← unescV_is, hu])
    clear hu
    go_wp2_with fail
    refine (HN.out _ (HV.out.below B6.out)).mono ?_
    rintro e w7 ⟨n, rfl, hn, b7⟩
    have HNI := Lib.hid hn
    clear hn
    have B7 := Lib.hid (show B w w7 from (B_trans (by first | exact B6.out | exact B_drew B6.out | exact B_drewN B6.out _) b7))
    have HR7 := Lib.hid (HR6.out.b b7)
    have HO7 := Lib.hid (HO6.out.b b7)
    clear b7 HR6 HO6 B6 d0 d1 d2 d3 d4 hql fz
    have hqo := HO7.out
    have d0 := hqo.cell 0
    have d1 := hqo.cell 1
    have d2 := hqo.cell 2
    have d3 := hqo.cell 3
    have d4 := hqo.cell 4
    have hql := hqo.lt
    have fz := fun i => hqo.frozen i
    simp at d0 d1 d2 d3 d4
    clear hqo
    go_wp2_with fail
    refine (HKD.out _).mono ?_
    rintro e w8 ⟨rfl, b8⟩
    have B8 := Lib.hid (show B w w8 from (B_trans (by first | exact B7.out | exact B_drew B7.out | exact B_drewN B7.out _) b8))
    have HR8 := Lib.hid (HR7.out.b b8)
    have HO8 := Lib.hid (HO7.out.b b8)
    clear b8 HR7 HO7 B7 d0 d1 d2 d3 d4 hql fz
    have hqo := HO8.out
    have d0 := hqo.cell 0
    have d1 := hqo.cell 1
    have d2 := hqo.cell 2
    have d3 := hqo.cell 3
    have d4 := hqo.cell 4
    have hql := hqo.lt
    have fz := fun i => hqo.frozen i
    simp at d0 d1 d2 d3 d4
    clear hqo
    have HVC := Lib.hid (show VarsC w from HV.out.tab)
    obtain ⟨oo, hoo⟩ : ∃ oo : OutV, oo = ⟨0, n, fk, u, ⟨#[]⟩⟩ := ⟨_, rfl⟩
    have HCD := Lib.hid (show Cand l.data.toList oo by rw [hoo]; exact (cand_frame hk (.inl rfl) (fun v h0 h9 h => HNI.out v h0 h9 (ha2.trans h)) HFK.out.symm HUT.out))
    have HLN := Lib.hid (fun W h => line_any oo (by rw [hoo]; simp only; first | omega | decide) (by rw [hoo]; simp only; first | omega | decide) W h)
    unfold LinePost at HLN
    have HH := Lib.hid (line_three l oo)
    rw [show outArg oo = .agg #[.int .i64 (0), .int .i64 (n), .int .i64 (fk), .string (u), .string (⟨#[]⟩)] by rw [hoo]; rfl] at HLN
    have HOA := Lib.hid (show outArg oo = .agg #[.int .i64 (0), .int .i64 (n), .int .i64 (fk), .string (u), .string (⟨#[]⟩)] by rw [hoo]; rfl)
    clear hoo
    go_wp2_with fail
    refine (HLN.out _ (VarsC.below HVC.out (by repeat (first | with_reducible exact B8.out | refine B_setCell ?_ (by first | (simp; done) | (simp; omega)) _ | refine B_drew ?_)))).mono ?_
    rintro e wl ⟨rfl, bl⟩
    have HRL := Lib.hid (Blk.b (show Blk _ w.heap.size 27 #[.int .i64 0, .int .i64 0, .int .i64 0, .string ⟨#[]⟩, .string ⟨#[]⟩] by repeat (first | with_reducible exact HR8.out | refine Blk.far ?_ (by simp; omega) _ | refine Blk.drew ?_)) bl)
    have HOL := Lib.hid (Blk.b (show Blk _ q 27 #[.int .i64 (0), .int .i64 (n), .int .i64 (fk), .string (u), .string (⟨#[]⟩)] from ((HO8.out.set_ 1 _).set_ 2 _).set_ 3 _) bl)
    have BL := Lib.hid (show B w wl from B_trans (by repeat (first | with_reducible exact B8.out | refine B_setCell ?_ (by first | (simp; done) | (simp; omega)) _ | refine B_drew ?_)) bl)
    clear bl d0 d1 d2 d3 d4 fz hql HR8 HO8 B8 HLN
    have hqo := HOL.out
    have hqr := HRL.out
    have d0 := hqo.cell 0
    have d1 := hqo.cell 1
    have d2 := hqo.cell 2
    have d3 := hqo.cell 3
    have d4 := hqo.cell 4
    have r0 := hqr.cell 0
    have r1 := hqr.cell 1
    have r2 := hqr.cell 2
    have r3 := hqr.cell 3
    have r4 := hqr.cell 4
    have hql := hqo.lt
    have hqr1 := hqr.lt
    have fz := fun i => hqr.frozen i
    simp at d0 d1 d2 d3 d4 r0 r1 r2 r3 r4
    clear hqo hqr
    rcases HH.out with ⟨h1, h2⟩ | ⟨lv, h1, hne, h2⟩ | ⟨h1, h2⟩
    all_goals
      rw [h1]
      have H2 := Lib.hid h2
      clear h1 h2 HH
      go_wp2_with fail
    · refine parse_end (by rfl) (by rfl) (show Blk _ _ _ #[.int .i64 0, .int .i64 0, .int .i64 0, .string ⟨#[]⟩, .string ⟨#[]⟩] from ((((HRL.out.set_ 0 _).set_ 1 _).set_ 2 _).set_ 3 _).set_ 4 _) ⟨oo, HCD.out, by rw [H2.out]; rfl, ?_⟩
      repeat (first | with_reducible exact BL.out | refine B_setCell ?_ (by first | (simp; done) | (simp; omega)) _ | refine B_drew ?_)
    · refine parse_end (by rfl) (by rfl) (show Blk _ _ _ #[.int .i64 0, .int .i64 0, .int .i64 0, .string ⟨#[]⟩, .string ⟨#[]⟩] from ((((HRL.out.set_ 0 _).set_ 1 _).set_ 2 _).set_ 3 _).set_ 4 _) ⟨oo, HCD.out, by rw [H2.out]; rfl, ?_⟩
      repeat (first | with_reducible exact BL.out | refine B_setCell ?_ (by first | (simp; done) | (simp; omega)) _ | refine B_drew ?_)
    · refine parse_end (by rfl) (by rfl) (show Blk _ _ _ #[.int .i64 (0), .int .i64 (n), .int .i64 (fk), .string (u), .string (⟨#[]⟩)] from ((((HRL.out.set_ 0 _).set_ 1 _).set_ 2 _).set_ 3 _).set_ 4 _) ⟨oo, HCD.out, by rw [H2.out]; exact congrArg (fun z => Ending.returned (.tuple #[z, .int .i64 0])) HOA.out.symm, ?_⟩
      repeat (first | with_reducible exact BL.out | refine B_setCell ?_ (by first | (simp; done) | (simp; omega)) _ | refine B_drew ?_)
  · have HR0 := Lib.hid (Blk.new w 27 #[.int .i64 0, .int .i64 0, .int .i64 0, .string ⟨#[]⟩, .string ⟨#[]⟩])
    have HB0 := Lib.hid (B_alloc (B_refl w) (.cells #[.int .i64 0, .int .i64 0, .int .i64 0, .string ⟨#[]⟩, .string ⟨#[]⟩] 27))
    go_enter Tryd.func20, Tryd.ntmps20
    go_wp2_with fail
    refine (HC1.out _ (HV.out.below (by first | exact HB0.out | exact B_drew HB0.out | exact B_drewN HB0.out _))).mono ?_
    rintro e w1 ⟨f1, rfl, b1⟩
    have B1 := Lib.hid (show B w w1 from (B_trans (by first | exact HB0.out | exact B_drew HB0.out | exact B_drewN HB0.out _) b1))
    have HR1 := Lib.hid (HR0.out.b b1)
    clear b1
    go_wp2_with fail
    refine (words_any _).mono ?_
    rintro e w2 ⟨gv, cv, rfl, hcv, hgv, hbv, b2⟩
    have B2 := Lib.hid (show B w w2 from (B_trans (by first | exact B1.out | exact B_drew B1.out | exact B_drewN B1.out _) b2))
    have HR2 := Lib.hid (HR1.out.b b2)
    have HBV := Lib.hid hbv
    clear b2 hcv hgv hbv HR0 HR1 HB0
    go_wp2_with fail
    refine (HI.out _ gv (by exact HBV.out) cv).mono ?_
    rintro e w3 ⟨rfl, rfl⟩
    have HO3 := Lib.hid (Blk.new w3 27 #[.int .i64 (1), .int .i64 0, .int .i64 0, .string ⟨#[]⟩, .string ⟨#[]⟩])
    have HR3 := Lib.hid (HR2.out.alloc (.cells #[.int .i64 (1), .int .i64 0, .int .i64 0, .string ⟨#[]⟩, .string ⟨#[]⟩] 27))
    have B3 := Lib.hid (B_alloc B2.out (.cells #[.int .i64 (1), .int .i64 0, .int .i64 0, .string ⟨#[]⟩, .string ⟨#[]⟩] 27))
    have hq := HR2.out.lt
    clear HI HBV HR2
    go_wp2_with fail
    refine (HC2.out _ (HV.out.below (by first | exact B3.out | exact B_drew B3.out | exact B_drewN B3.out _))).mono ?_
    rintro e w4 ⟨f2, rfl, b4⟩
    have B4 := Lib.hid (show B w w4 from (B_trans (by first | exact B3.out | exact B_drew B3.out | exact B_drewN B3.out _) b4))
    have HR4 := Lib.hid (HR3.out.b b4)
    have HO4 := Lib.hid (HO3.out.b b4)
    clear b4 HO3 HR3 B3 B2 B1 HC1 HC2
    generalize w3.heap.size = q at *
    have hqo := HO4.out
    have d0 := hqo.cell 0
    have d1 := hqo.cell 1
    have d2 := hqo.cell 2
    have d3 := hqo.cell 3
    have d4 := hqo.cell 4
    have hql := hqo.lt
    have fz := fun i => hqo.frozen i
    simp at d0 d1 d2 d3 d4
    clear hqo
    go_wp2_with fail
    refine (HC3.out _ (HV.out.below B4.out)).mono ?_
    rintro e w5 ⟨f3, rfl, b5⟩
    have B5 := Lib.hid (show B w w5 from (B_trans (by first | exact B4.out | exact B_drew B4.out | exact B_drewN B4.out _) b5))
    have HR5 := Lib.hid (HR4.out.b b5)
    have HO5 := Lib.hid (HO4.out.b b5)
    clear b5 HR4 HO4 B4 d0 d1 d2 d3 d4 hql fz
    have hqo := HO5.out
    have d0 := hqo.cell 0
    have d1 := hqo.cell 1
    have d2 := hqo.cell 2
    have d3 := hqo.cell 3
    have d4 := hqo.cell 4
    have hql := hqo.lt
    have fz := fun i => hqo.frozen i
    simp at d0 d1 d2 d3 d4
    clear hqo
    go_wp2_with fail
    refine (HU.out _).mono ?_
    rintro e w6 ⟨rfl, b6⟩
    have B6 := Lib.hid (show B w w6 from (B_trans (by first | exact B5.out | exact B_drew B5.out | exact B_drewN B5.out _) b6))
    have HR6 := Lib.hid (HR5.out.b b6)
    have HO6 := Lib.hid (HO5.out.b b6)
    clear b6 HR5 HO5 B5 d0 d1 d2 d3 d4 hql fz
    have hqo := HO6.out
    have d0 := hqo.cell 0
    have d1 := hqo.cell 1
    have d2 := hqo.cell 2
    have d3 := hqo.cell 3
    have d4 := hqo.cell 4
    have hql := hqo.lt
    have fz := fun i => hqo.frozen i
    simp at d0 d1 d2 d3 d4
    clear hqo
    obtain ⟨u, c, hu⟩ : ∃ u c, unescV (cutB (cutB (cutB l))) = (u, c) := ⟨_, _, rfl⟩
    rw [hu]
    dsimp only
    have hus : u.size ≤ 1000 := by
      have := unescV_size (cutB (cutB (cutB l)))
      rw [hu] at this
      simp only at this
      omega
    have HUT := Lib.hid (show u = unescD (cut1 (cut1 (cut1 l.data.toList).2).2).2 by
      rw [← hb3, ← unescV_is, hu])
    clear hu
    go_wp2_with fail
    refine (HN.out _ (HV.out.below B6.out)).mono ?_
    rintro e w7 ⟨n, rfl, hn, b7⟩
    have HNI := Lib.hid hn
    clear hn
    have B7 := Lib.hid (show B w w7 from (B_trans (by first | exact B6.out | exact B_drew B6.out | exact B_drewN B6.out _) b7))
    have HR7 := Lib.hid (HR6.out.b b7)
    have HO7 := Lib.hid (HO6.out.b b7)
    clear b7 HR6 HO6 B6 d0 d1 d2 d3 d4 hql fz
    have hqo := HO7.out
    have d0 := hqo.cell 0
    have d1 := hqo.cell 1
    have d2 := hqo.cell 2
    have d3 := hqo.cell 3
    have d4 := hqo.cell 4
    have hql := hqo.lt
    have fz := fun i => hqo.frozen i
    simp at d0 d1 d2 d3 d4
    clear hqo
    go_wp2_with fail
    refine (HKD.out _).mono ?_
    rintro e w8 ⟨rfl, b8⟩
    have B8 := Lib.hid (show B w w8 from (B_trans (by first | exact B7.out | exact B_drew B7.out | exact B_drewN B7.out _) b8))
    have HR8 := Lib.hid (HR7.out.b b8)
    have HO8 := Lib.hid (HO7.out.b b8)
    clear b8 HR7 HO7 B7 d0 d1 d2 d3 d4 hql fz
    have hqo := HO8.out
    have d0 := hqo.cell 0
    have d1 := hqo.cell 1
    have d2 := hqo.cell 2
    have d3 := hqo.cell 3
    have d4 := hqo.cell 4
    have hql := hqo.lt
    have fz := fun i => hqo.frozen i
    simp at d0 d1 d2 d3 d4
    clear hqo
    have HVC := Lib.hid (show VarsC w from HV.out.tab)
    obtain ⟨oo, hoo⟩ : ∃ oo : OutV, oo = ⟨1, n, fk, u, ⟨#[]⟩⟩ := ⟨_, rfl⟩
    have HCD := Lib.hid (show Cand l.data.toList oo by rw [hoo]; exact (cand_frame hk (.inr rfl) (fun v h0 h9 h => HNI.out v h0 h9 (ha2.trans h)) HFK.out.symm HUT.out))
    have HLN := Lib.hid (fun W h => line_any oo (by rw [hoo]; simp only; first | omega | decide) (by rw [hoo]; simp only; first | omega | decide) W h)
    unfold LinePost at HLN
    have HH := Lib.hid (line_three l oo)
    rw [show outArg oo = .agg #[.int .i64 (1), .int .i64 (n), .int .i64 (fk), .string (u), .string (⟨#[]⟩)] by rw [hoo]; rfl] at HLN
    have HOA := Lib.hid (show outArg oo = .agg #[.int .i64 (1), .int .i64 (n), .int .i64 (fk), .string (u), .string (⟨#[]⟩)] by rw [hoo]; rfl)
    clear hoo
    go_wp2_with fail
    refine (HLN.out _ (VarsC.below HVC.out (by repeat (first | with_reducible exact B8.out | refine B_setCell ?_ (by first | (simp; done) | (simp; omega)) _ | refine B_drew ?_)))).mono ?_
    rintro e wl ⟨rfl, bl⟩
    have HRL := Lib.hid (Blk.b (show Blk _ w.heap.size 27 #[.int .i64 0, .int .i64 0, .int .i64 0, .string ⟨#[]⟩, .string ⟨#[]⟩] by repeat (first | with_reducible exact HR8.out | refine Blk.far ?_ (by simp; omega) _ | refine Blk.drew ?_)) bl)
    have HOL := Lib.hid (Blk.b (show Blk _ q 27 #[.int .i64 (1), .int .i64 (n), .int .i64 (fk), .string (u), .string (⟨#[]⟩)] from ((HO8.out.set_ 1 _).set_ 2 _).set_ 3 _) bl)
    have BL := Lib.hid (show B w wl from B_trans (by repeat (first | with_reducible exact B8.out | refine B_setCell ?_ (by first | (simp; done) | (simp; omega)) _ | refine B_drew ?_)) bl)
    clear bl d0 d1 d2 d3 d4 fz hql HR8 HO8 B8 HLN
    have hqo := HOL.out
    have hqr := HRL.out
    have d0 := hqo.cell 0
    have d1 := hqo.cell 1
    have d2 := hqo.cell 2
    have d3 := hqo.cell 3
    have d4 := hqo.cell 4
    have r0 := hqr.cell 0
    have r1 := hqr.cell 1
    have r2 := hqr.cell 2
    have r3 := hqr.cell 3
    have r4 := hqr.cell 4
    have hql := hqo.lt
    have hqr1 := hqr.lt
    have fz := fun i => hqr.frozen i
    simp at d0 d1 d2 d3 d4 r0 r1 r2 r3 r4
    clear hqo hqr
    rcases HH.out with ⟨h1, h2⟩ | ⟨lv, h1, hne, h2⟩ | ⟨h1, h2⟩
    all_goals
      rw [h1]
      have H2 := Lib.hid h2
      clear h1 h2 HH
      go_wp2_with fail
    · refine parse_end (by rfl) (by rfl) (show Blk _ _ _ #[.int .i64 0, .int .i64 0, .int .i64 0, .string ⟨#[]⟩, .string ⟨#[]⟩] from ((((HRL.out.set_ 0 _).set_ 1 _).set_ 2 _).set_ 3 _).set_ 4 _) ⟨oo, HCD.out, by rw [H2.out]; rfl, ?_⟩
      repeat (first | with_reducible exact BL.out | refine B_setCell ?_ (by first | (simp; done) | (simp; omega)) _ | refine B_drew ?_)
    · refine parse_end (by rfl) (by rfl) (show Blk _ _ _ #[.int .i64 0, .int .i64 0, .int .i64 0, .string ⟨#[]⟩, .string ⟨#[]⟩] from ((((HRL.out.set_ 0 _).set_ 1 _).set_ 2 _).set_ 3 _).set_ 4 _) ⟨oo, HCD.out, by rw [H2.out]; rfl, ?_⟩
      repeat (first | with_reducible exact BL.out | refine B_setCell ?_ (by first | (simp; done) | (simp; omega)) _ | refine B_drew ?_)
    · refine parse_end (by rfl) (by rfl) (show Blk _ _ _ #[.int .i64 (1), .int .i64 (n), .int .i64 (fk), .string (u), .string (⟨#[]⟩)] from ((((HRL.out.set_ 0 _).set_ 1 _).set_ 2 _).set_ 3 _).set_ 4 _) ⟨oo, HCD.out, by rw [H2.out]; exact congrArg (fun z => Ending.returned (.tuple #[z, .int .i64 0])) HOA.out.symm, ?_⟩
      repeat (first | with_reducible exact BL.out | refine B_setCell ?_ (by first | (simp; done) | (simp; omega)) _ | refine B_drew ?_)
theorem parse_any (l : ByteArray) (hl : l.size ≤ 1000) (w : World) (hv : Vars w) : Calls Tryd.prog 20 #[.string l] w (ParsePost l w) := by
  obtain ⟨k, hk⟩ : ∃ k, idxT (cut1 l.data.toList).1 = k := ⟨_, rfl⟩
  by_cases h56 : k = 5 ∨ k = 6
  · exact parse_say l hl (by rw [hk]; exact h56) w hv
  · by_cases h2 : k = 2
    · exact parse_dial l hl (by rw [hk]; exact h2) w hv
    · by_cases h01 : k = 0 ∨ k = 1
      · exact parse_frame l hl (by rw [hk]; exact h01) w hv
      · exact parse_gone l hl k hk (by omega) w hv
end Go.Proofs.YthalpaggcdpcbaaDoor.Tr
