/- slices.DeleteFunc at outputs; trace.Of's closure. -/
import Derived.Test.YthalpaggcdpcbaaDoorTrOa
namespace Go.Proofs.YthalpaggcdpcbaaDoor.Tr
open Go.RowKit Go.Proofs.YthalpaggcdpcbaaDoor Go.Proofs.YthalpaggcdpcbaaDoor.Nm Go.Proofs.YthalpaggcdpcbaaDoor.Cf
def keepO (p : OutV → Bool) (L : List OutV) : List OutV := L.filter fun x => !p x
/-- How far the striking has come: of the first j, those that are kept lie at the head. -/
structure Struck (p : OutV → Bool) (L L' : List OutV) (i j : Nat) : Prop where
  len : L'.length = L.length
  lt : i < j
  le : j ≤ L.length
  head : L'.take i = keepO p (L.take j)
  tail : L'.drop j = L.drop j
theorem Struck.at_ {p : OutV → Bool} {L L' : List OutV} {i j : Nat} (h : Struck p L L' i j) {o : OutV} (ho : L[j]? = some o) : L'[j]? = some o := by
  have := congrArg (fun l => l[0]?) h.tail
  simp only [List.getElem?_drop, Nat.add_zero] at this
  rw [this, ho]
theorem Struck.gone {p : OutV → Bool} {L L' : List OutV} {i j : Nat} (h : Struck p L L' i j) {o : OutV} (ho : L[j]? = some o) (hp : p o = true) : Struck p L L' i (j + 1) := by
  obtain ⟨hlt, he⟩ := List.getElem?_eq_some_iff.1 ho
  refine ⟨h.len, by have := h.lt; omega, by omega, ?_, ?_⟩
  · rw [h.head, List.take_succ_eq_append_getElem hlt]
    unfold keepO
    rw [List.filter_append, he]
    simp [hp]
  · have := congrArg (List.drop 1) h.tail
    simpa [List.drop_drop] using this
theorem Struck.kept {p : OutV → Bool} {L L' : List OutV} {i j : Nat} (h : Struck p L L' i j) {o : OutV} (ho : L[j]? = some o) (hp : p o = false) : Struck p L (L'.set i o) (i + 1) (j + 1) := by
  obtain ⟨hlt, he⟩ := List.getElem?_eq_some_iff.1 ho
  have hij := h.lt
  refine ⟨by rw [List.length_set]; exact h.len, by omega, by omega, ?_, ?_⟩
  · rw [List.take_succ_eq_append_getElem (by rw [List.length_set, h.len]; omega), List.getElem_set_self, List.take_set, List.set_eq_of_length_le (by rw [List.length_take]; omega), h.head, List.take_succ_eq_append_getElem hlt]
    unfold keepO
    rw [List.filter_append, he]
    simp [hp]
  · rw [List.drop_set_of_lt (by omega)]
    have := congrArg (List.drop 1) h.tail
    simpa [List.drop_drop] using this
theorem Struck.done {p : OutV → Bool} {L L' : List OutV} {i : Nat} (h : Struck p L L' i L.length) : L'.take i = keepO p L ∧ (keepO p L).length = i := by
  have h1 := h.head
  rw [List.take_length] at h1
  refine ⟨h1, ?_⟩
  rw [← h1, List.length_take, h.len]
  have := h.lt
  omega
theorem out_zero : ∀ w, (zeroValue 27).run Tryd.prog w = .ok (.agg #[.int .i64 0, .int .i64 0, .int .i64 0, .string ByteArray.empty, .string ByteArray.empty]) w := fun w => Tryd.zeroValue27 w
def DelPost (w : World) (g off c : Nat) (K : List OutV) (e : Ending) (w' : World) : Prop := e = .returned (.slice (some ⟨g, off, none⟩) K.length c) ∧ Sl w' 27 5 (.slice (some ⟨g, off, none⟩) K.length c) K.length (K.flatMap encO) ∧ Only (fun i => i = g) w w'
set_option maxRecDepth 100000 in
set_option maxHeartbeats 8000000 in
theorem delOut_any (w : World) (g off n c : Nat) (L : List OutV) (b1 b2 : Nat) (p : OutV → Bool) (hn : L.length = n) (hl : n ≤ 100000) (hs : Sl w 27 5 (.slice (some ⟨g, off, none⟩) n c) n (L.flatMap encO))
    (hp : ∀ W o, Only (fun i => i = g) w W → Calls Tryd.prog 40 #[outArg o, .pointer (some ⟨b1, 0, none⟩), .pointer (some ⟨b2, 0, none⟩)] W fun e w' => e = .returned (.bool (p o)) ∧ B W w') :
    Calls Tryd.prog 38 #[.slice (some ⟨g, off, none⟩) n c, .func (.func 40) #[] #[.pointer (some ⟨b1, 0, none⟩), .pointer (some ⟨b2, 0, none⟩)]] w (DelPost w g off c (keepO p L)) := by
  subst hn
  have hca : L.length ≤ c := sl_capO hs
  have hlt := hs.lt (g := g) rfl
  have HS := Lib.hid hs
  have HP := Lib.hid hp
  have HI := Lib.hid (idxOut_any w (some ⟨g, off, none⟩) c L b1 b2 p (by omega) (outs_of_Sl hs rfl) (fun W o h => hp W o (Only.of_B h)))
  clear hs hp
  rcases fIdx_or p L with ⟨h1, h2⟩ | ⟨k, o, ho, hpo, h1, h2⟩
  · rw [h1] at HI
    have HK := Lib.hid (show keepO p L = L from h2)
    clear h1 h2
    go_enter Tryd.func38, Tryd.ntmps38
    go_wp2_with fail
    refine HI.out.mono ?_
    rintro e w1 ⟨rfl, b1'⟩
    have HS1 := Lib.hid (HS.out.b b1')
    have HO1 := Lib.hid (Only.of_B (F := fun i => i = g) b1')
    clear b1'
    go_wp2_with fail
    go_ret
    rw [HK.out]
    exact ⟨rfl, HS1.out, HO1.out⟩
  · rw [h1] at HI
    have hkl := (List.getElem?_eq_some_iff.1 ho).1
    have ST0 := Lib.hid (show Struck p L L k (k + 1) from ⟨rfl, by omega, by omega, h2.symm, rfl⟩)
    have t0 : ((k : Int) == -1) = false := beq_eq_false_iff_ne.2 (by omega)
    clear h1 h2 ho hpo
    go_enter Tryd.func38, Tryd.ntmps38
    go_wp2_with fail
    refine HI.out.mono ?_
    rintro e w1 ⟨rfl, b1'⟩
    have HS1 := Lib.hid (HS.out.b b1')
    have HO1 := Lib.hid (Only.of_B (F := fun i => i = g) b1')
    clear b1' HI
    go_wp2_with fail
    go_loopw [5, 6, 7] (fun i5 i6 _ wr => ∃ (i j : Nat) (L' : List OutV), i5 = .int .i64 i ∧ i6 = .int .i64 j ∧ Hid (Struck p L L' i j) ∧ Sl wr 27 5 (.slice (some ⟨g, off, none⟩) L.length c) L.length (L'.flatMap encO) ∧ Only (fun i => i = g) w wr) (fun _ i _ _ => L.length - (intOf i).toNat)
    case atStart => exact ⟨k, k + 1, L, rfl, by push_cast; rfl, ST0, by repeat (first | with_reducible exact HS1.out | refine Sl.drew ?_ | refine Sl.drewN ?_ _), by repeat (first | with_reducible exact HO1.out | refine Only.drew ?_ | refine Only.drewN ?_ _)⟩
    case round =>
      obtain ⟨i, j, L', rfl, rfl, hst, hsl, hon⟩ := hrel
      have ⟨hlen, hij, hjl, _, _⟩ := hst.out
      have HSL := Lib.hid hsl
      have HON := Lib.hid hon
      clear hsl hon
      by_cases hjm : j < L.length
      · obtain ⟨o, ho⟩ : ∃ o, L[j]? = some o := ⟨_, List.getElem?_eq_getElem hjm⟩
        obtain ⟨g', off', e', c0, c1, c2, c3, c4⟩ := outs_of_Sl HSL.out hlen j o (hst.out.at_ ho)
        injection e' with e'
        injection e' with e1 e2
        subst e1 e2
        have HGO := Lib.hid (fun h => hst.out.gone ho h)
        have HKE := Lib.hid (fun h => hst.out.kept ho h)
        have HPO := Lib.hid (fun W h => HP.out W o h)
        unfold outArg at HPO
        clear ho
        have hgr : g < wr.heap.size := Nat.lt_of_lt_of_le hlt HON.out.size
        have HPUT := Lib.hid (fun W (h : Sl W 27 5 (.slice (some ⟨g, off, none⟩) L.length c) L.length (L'.flatMap encO)) => put_out h hlen (show i < L.length by omega) o)
        obtain ⟨ok, oi, of, od, ot⟩ := o
        dsimp only at HPO c0 c1 c2 c3 c4
        go_wp2_with fail
        refine (HPO.out _ (by repeat (first | with_reducible exact HON.out | refine Only.drew ?_ | refine Only.drewN ?_ _ | refine Only.alloc ?_ _))).mono ?_
        rintro e w2 ⟨rfl, b2'⟩
        have HS2 := Lib.hid (Sl.b (show Sl _ 27 5 (.slice (some ⟨g, off, none⟩) L.length c) L.length (L'.flatMap encO) by repeat (first | with_reducible exact HSL.out | refine Sl.drew ?_ | refine Sl.drewN ?_ _ | refine Sl.alloc ?_ _)) b2')
        have HO2 := Lib.hid (show Only (fun i => i = g) w w2 from Only.trans (by repeat (first | with_reducible exact HON.out | refine Only.drew ?_ | refine Only.drewN ?_ _ | refine Only.alloc ?_ _)) (Only.of_B b2'))
        have HV2 := Lib.hid (Blk.b (show Blk _ wr.heap.size 27 #[.int .i64 ok, .int .i64 oi, .int .i64 of, .string od, .string ot] by repeat (first | with_reducible exact Blk.new _ _ _ | refine Blk.drew ?_)) b2')
        clear b2' c0 c1 c2 c3 c4
        cases hpo : p ⟨ok, oi, of, od, ot⟩ with
        | true =>
          have HST := Lib.hid (HGO.out hpo)
          clear hpo
          go_wp2_with fail
          go_roundw
          case rel => exact ⟨i, j + 1, L', rfl, by push_cast; rfl, HST, by repeat (first | with_reducible exact HS2.out | refine Sl.drew ?_), by repeat (first | with_reducible exact HO2.out | refine Only.drew ?_)⟩
          case measure => simp [intOf]; omega
        | false =>
          have HST := Lib.hid (HKE.out hpo)
          clear hpo
          have hv := HV2.out
          have d0 := hv.cell 0
          have d1 := hv.cell 1
          have d2 := hv.cell 2
          have d3 := hv.cell 3
          have d4 := hv.cell 4
          have dl := hv.lt
          simp at d0 d1 d2 d3 d4
          clear hv
          have fz := fun m => HS2.out.frozenAt m
          have hi5 : ∀ k, k < 5 → ∃ u, w2.cell? ⟨g, off + i * 5 + k, none⟩ = some u := fun k hk => by
            obtain ⟨u, hu⟩ : ∃ u, (L'.flatMap encO)[i * 5 + k]? = some u := ⟨_, List.getElem?_eq_getElem (by rw [encOs_len, hlen]; omega)⟩
            exact ⟨u, by rw [Nat.add_assoc]; exact HS2.out.cellAt hu⟩
          obtain ⟨z0, q0⟩ := hi5 0 (by omega)
          obtain ⟨z1, q1⟩ := hi5 1 (by omega)
          obtain ⟨z2, q2⟩ := hi5 2 (by omega)
          obtain ⟨z3, q3⟩ := hi5 3 (by omega)
          obtain ⟨z4, q4⟩ := hi5 4 (by omega)
          rw [Nat.add_zero] at q0
          clear hi5
          have hne : g ≠ wr.heap.size := by omega
          go_wp2_with fail
          go_roundw
          case rel => exact ⟨i + 1, j + 1, L'.set i ⟨ok, oi, of, od, ot⟩, by push_cast; rfl, by push_cast; rfl, HST, HPUT.out _ HS2.out, Only.setCells (F := fun i => i = g) (g := g) (.inl rfl) (encO ⟨ok, oi, of, od, ot⟩) (off + i * 5) w2 HO2.out⟩
          case measure => simp [intOf]; omega
      · obtain rfl : j = L.length := by omega
        have hdn := hst.out.done
        obtain ⟨vs, hvl, hcl⟩ := run_clear_sl (P := Tryd.prog) (size := 5) 22 _ Tryd.underlying22 out_zero (by rfl) (by intro v hv; simp [Value.cells] at hv; rcases hv with rfl | rfl | rfl | rfl | rfl <;> simp [Value.oneCell']) HSL.out i hij
        have HCL := Lib.hid (HSL.out.puts (i * 5) vs (by rw [hvl]; have : (L.length - i) * 5 + i * 5 = L.length * 5 := by { rw [← Nat.add_mul]; congr 1; omega }; omega))
        have HTK := Lib.hid (HCL.out.take (k := i) (by omega))
        have HON2 := Lib.hid (Only.setCells (F := fun i => i = g) (g := g) (.inl rfl) vs (off + i * 5) wr HON.out)
        have hxs : ((L'.flatMap encO).take (i * 5) ++ vs ++ (L'.flatMap encO).drop (i * 5 + vs.length)).take (i * 5) = (keepO p L).flatMap encO := by
          have h5 : ((L'.flatMap encO).take (i * 5)).length = i * 5 := by rw [List.length_take, encOs_len, hlen]; omega
          rw [List.append_assoc, List.take_append_of_le_length (by rw [h5]; omega), List.take_take, Nat.min_self, encOs_take, hdn.1]
        rw [hxs] at HTK
        have HKL := Lib.hid hdn.2
        have sl1 : ∀ W, (Instr.slice 22 (.slice (some ⟨g, off, none⟩) L.length c) (some (.int .i64 (i : Int))) none none).run Tryd.prog W = .ok (.slice (some ⟨g, off + i * 5, none⟩) (L.length - i) (c - i)) W := fun W => by
          exact slice_from Tryd.underlying22 (fun w => by kernel_rfl) (by omega) (by omega) W
        clear hdn hxs hvl
        go_wp2_with fail
        go_ret
        refine ⟨?_, ?_, ?_⟩
        · rw [HKL.out]; rfl
        · rw [HKL.out]; exact HTK.out
        · exact HON2.out
end Go.Proofs.YthalpaggcdpcbaaDoor.Tr
