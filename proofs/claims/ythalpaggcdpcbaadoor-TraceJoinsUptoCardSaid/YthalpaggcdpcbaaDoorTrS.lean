/- few, TraceBack. -/
import Derived.Test.YthalpaggcdpcbaaDoorTrQ
namespace Go.Proofs.YthalpaggcdpcbaaDoor.Tr
open Go.RowKit Go.Proofs.YthalpaggcdpcbaaDoor Go.Proofs.YthalpaggcdpcbaaDoor.Nm Go.Proofs.YthalpaggcdpcbaaDoor.Cf
theorem eqOut (d : Nat) (w : World) (a0 a1 a2 b0 b1 b2 : Int) (a3 a4 b3 b4 : ByteArray) :
    (Op.equalIn (d + 3) 27 (.agg #[.int .i64 a0, .int .i64 a1, .int .i64 a2, .string a3, .string a4]) (.agg #[.int .i64 b0, .int .i64 b1, .int .i64 b2, .string b3, .string b4])).run Tryd.prog w = .ok (a0 == b0 && (a1 == b1 && ((a2 == b2 && (a3.toList == b3.toList)) && (a4.toList == b4.toList && true)))) w := by
  refine eqA_struct Tryd.underlying27 (by kernel_rfl) ?_
  refine eqf_one (by rfl) (by go_simp; rfl) (by go_simp; rfl) (by go_simp) ?_
  refine eqf_one (by rfl) (by go_simp; rfl) (by go_simp; rfl) (by go_simp) ?_
  refine eqf_one (by rfl) (by go_simp) (by go_simp) (eqFrame d w a2 b2 a3 b3) ?_
  refine eqf_one (by rfl) (by go_simp; rfl) (by go_simp; rfl) (by go_simp) ?_
  exact eqf_none
theorem few_end {tmps : Array Value} {W : World} {b : Nat} {k i f : Int} {d t : ByteArray} {Q : Ending → World → Prop} (h2 : tmps[2]? = some (.pointer (some ⟨b, 0, none⟩)))
    (hC : Blk W b 27 #[.int .i64 k, .int .i64 i, .int .i64 f, .string d, .string t]) (hQ : Q (.returned (.agg #[.int .i64 k, .int .i64 i, .int .i64 f, .string d, .string t])) W) :
    bodyPost Tryd.prog Tryd.f10 Q .ret { tmps := tmps, defers := [] } W := by
  have c0 := hC.cell 0
  have c1 := hC.cell 1
  have c2 := hC.cell 2
  have c3 := hC.cell 3
  have c4 := hC.cell 4
  simp at c0 c1 c2 c3 c4
  refine bodyPost_ret (v := .agg #[.int .i64 k, .int .i64 i, .int .i64 f, .string d, .string t]) ?_ rfl hQ
  simp [results, Tryd.results10, h2, asAddr, c0, c1, c2, c3, c4, go_sem]
set_option maxHeartbeats 2000000 in
set_option maxRecDepth 100000 in
theorem few_any (k id fk : Int) (d0 t0 : ByteArray) : ∃ d t : ByteArray, d.size ≤ 60 ∧ t.size ≤ 60 ∧ ∀ w, Calls Tryd.prog 10 #[.agg #[.int .i64 k, .int .i64 id, .int .i64 fk, .string d0, .string t0]] w fun e w' => e = .returned (.agg #[.int .i64 k, .int .i64 id, .int .i64 fk, .string d, .string t]) ∧ Below w.heap.size w w' := by
  obtain ⟨m, d, hmin, hsl, hs⟩ := cut_facts2 60 d0
  replace hmin : ∀ W ats ty, (Builtin.min_ ats ty #[.int .i64 (d0.size : Int), .int .i64 60]).run Tryd.prog W = .ok (.int .i64 m) W := hmin
  obtain ⟨m2, t, hmin2, hsl2, hs2⟩ := cut_facts2 60 t0
  replace hmin2 : ∀ W ats ty, (Builtin.min_ ats ty #[.int .i64 (t0.size : Int), .int .i64 60]).run Tryd.prog W = .ok (.int .i64 m2) W := hmin2
  refine ⟨d, t, hs, hs2, fun w => ?_⟩
  clear hs hs2
  go_enter Tryd.func10, Tryd.ntmps10
  go_wp2_with fail
  refine few_end (by rfl) (show Blk _ _ _ #[.int .i64 k, .int .i64 id, .int .i64 fk, .string d, .string t] from heap_at_new _ (by simp)) ⟨rfl, ?_⟩
  exact B_alloc (B_alloc (B_refl w) _) _
theorem line_size {o : OutV} (h : rightV o = true) (hd : o.data.size ≤ 60) (ht : o.text.size ≤ 60) : (bs (lineL o)).size ≤ 1000 := by
  have hw : ∀ i : Fin 7, (wordT (i.val : Int)).length ≤ 6 := by decide +kernel
  have hwk : ∀ k : Int, 0 ≤ k → k ≤ 6 → (wordT k).length ≤ 6 := fun k h0 h6 => by
    obtain ⟨n, rfl⟩ := Int.eq_ofNat_of_zero_le h0
    exact hw ⟨n, by omega⟩
  have e1 := (escL_len o.data.data.toList).2
  have e2 := (escL_len o.text.data.toList).2
  have f1 := fname_size o.fk
  have s1 : o.data.data.toList.length = o.data.size := by simp
  have s2 : o.text.data.toList.length = o.text.size := by simp
  have s3 : (fnameV o.fk).data.toList.length = (fnameV o.fk).size := by simp
  rw [bs_size]
  unfold lineL
  rcases right_cases h with ⟨hk, h1, h2, h3, h4⟩ | ⟨hk, h1, h2, h3, h4, h5⟩ | ⟨hk, h1, h2, h3, h4, h5⟩ | ⟨hk, h1, h3, h4, h5⟩
  · have w1 := hwk o.k (by omega) (by omega)
    have i1 := (itoa_nine h1 h2).1
    rw [if_neg (by omega), if_neg (by omega), if_neg (by omega)]
    split <;> simp only [List.length_append, List.length_cons] <;> omega
  · have w1 := hwk o.k (by omega) (by omega)
    have i1 := (itoa_nine h1 h2).1
    rw [if_neg (by omega), if_pos hk]
    simp only [List.length_append, List.length_cons]
    omega
  · have w1 := hwk o.k (by omega) (by omega)
    have i1 := (itoa_nine h1 h2).1
    rw [if_neg (by omega), if_neg (by omega), if_pos hk]
    simp only [List.length_append, List.length_cons]
    omega
  · have w1 := hwk o.k (by omega) (by omega)
    rw [if_pos hk]
    simp only [List.length_append, List.length_cons]
    omega
/-- What a line is read as: nothing, or what it is the line of. -/
theorem parse_two (s : ByteArray) (q : OutV) : parseA s q = (zeroO, 2) ∨ (parseA s q = (q, 0) ∧ lineV q = (s, 0)) := by
  rcases line_three s q with ⟨_, h⟩ | ⟨lv, _, _, h⟩ | ⟨h1, h⟩
  · exact .inl h
  · exact .inl h
  · exact .inr ⟨h, h1⟩
end Go.Proofs.YthalpaggcdpcbaaDoor.Tr
