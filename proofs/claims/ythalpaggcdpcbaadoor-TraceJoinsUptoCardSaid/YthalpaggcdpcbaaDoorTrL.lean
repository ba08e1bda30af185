/- trace.Line. -/
import Derived.Test.YthalpaggcdpcbaaDoorTrR
import Derived.Test.YthalpaggcdpcbaaDoorTrE
import Derived.Test.YthalpaggcdpcbaaDoorAn
import Derived.Deep.RegionHeld3
namespace Go.Proofs.YthalpaggcdpcbaaDoor.Tr
open Go.RowKit Go.Proofs.YthalpaggcdpcbaaDoor Go.Proofs.YthalpaggcdpcbaaDoor.Nm Go.Proofs.YthalpaggcdpcbaaDoor.Cf
def LinePost (o : OutV) (w : World) (e : Ending) (w' : World) : Prop := e = .returned (.tuple #[.string (lineV o).1, .int .i64 (lineV o).2]) ∧ Below w.heap.size w w'
def outCells (o : OutV) : Array Value := #[.int .i64 o.k, .int .i64 o.id, .int .i64 o.fk, .string o.data, .string o.text]
theorem lineV_no {o : OutV} (h : rightV o = false) : lineV o = (⟨#[]⟩, 1) := by unfold lineV; rw [h]; rfl
theorem lineV_yes {o : OutV} (h : rightV o = true) : lineV o = (bs (lineL o), 0) := by unfold lineV; rw [if_pos h]
set_option maxRecDepth 100000 in
theorem words_any (w : World) :
    Calls Tryd.prog 24 #[] w fun e w' => ∃ g cc, e = .returned (.slice (some ⟨g, 0, none⟩) 7 cc) ∧ 7 ≤ cc ∧ w.heap.size ≤ g ∧ Blk w' g 9 (encS wordsT).toArray ∧ Below w.heap.size w w' := by
  have HB := Lib.hid (fun o => (Below.refl w.heap.size w).alloc (Nat.le_refl _) o)
  have HN := Lib.hid (fun cs => Blk.new w 9 cs)
  go_enter Tryd.func24, Tryd.ntmps24
  go_wp2_with fail
  go_ret
  exact ⟨_, _, rfl, Nat.le_refl _, Nat.le_refl _, HN.out _, HB.out _⟩
def wordB (k : Nat) : ByteArray := wordsT.getD k e0
theorem word_cell {k : Nat} (hk : k < 7) : (encS wordsT).toArray[k]? = some (.string (wordB k)) := by
  match k, hk with
  | 0, _ | 1, _ | 2, _ | 3, _ | 4, _ | 5, _ | 6, _ => rfl
theorem wordB_size : ∀ i : Fin 7, (wordB i.val).size ≤ 6 := by decide +kernel
theorem sl_one {w : World} {g : Nat} {x : ByteArray} (h : Blk w g 9 #[.string x]) : Sl w 9 1 (.slice (some ⟨g, 0, none⟩) 1 1) 1 (encS [x]) :=
  ⟨rfl, .inr ⟨g, 0, 1, _, rfl, h, Nat.le_refl _, by unfold maxLen; omega, by simp, rfl⟩⟩
theorem join_two' (a b : ByteArray) : joinV [a, b] = bs (a.data.toList ++ 32 :: b.data.toList) := by
  unfold joinV
  simp [Sp.join_two, Lib.join_one]
theorem join_three (a b c : ByteArray) : joinV [a, b, c] = bs (a.data.toList ++ 32 :: (b.data.toList ++ 32 :: c.data.toList)) := by
  unfold joinV
  simp [Sp.join_two, Lib.join_one]
theorem join_four (a b c d : ByteArray) : joinV [a, b, c, d] = bs (a.data.toList ++ 32 :: (b.data.toList ++ 32 :: (c.data.toList ++ 32 :: d.data.toList))) := by
  unfold joinV
  simp [Sp.join_two, Lib.join_one]
theorem line_not (o : OutV) (h : rightV o = false) (w : World) : Calls Tryd.prog 11 #[outArg o] w (LinePost o w) := by
  have HR := Lib.hid (fun W => right_any o W)
  rw [h] at HR
  unfold LinePost
  rw [lineV_no h]
  clear h
  unfold outArg at *
  have HB0 := Lib.hid ((Below.refl w.heap.size w).alloc (Nat.le_refl _) (.cells #[.int .i64 o.k, .int .i64 o.id, .int .i64 o.fk, .string o.data, .string o.text] 27))
  go_enter Tryd.func11, Tryd.ntmps11
  go_wp2_with fail
  refine (HR.out _).mono ?_
  rintro e w1 ⟨rfl, b1⟩
  have B1 := Lib.hid (HB0.out.trans (b1.mono HB0.out.size))
  clear b1
  go_wp2_with fail
  go_ret2
  exact ⟨rfl, B1.out⟩
theorem join_le' {B : Nat} {L : List ByteArray} (h : ∀ x ∈ L, x.size ≤ B) : (Lib.join (L.map (·.data.toList)) [32]).length ≤ L.length * (B + 1) := by
  have := join_le (sep := [32]) (by simp) (B := B) (L := L.map (·.data.toList)) (fun x hx => by
    obtain ⟨y, hy, rfl⟩ := List.mem_map.1 hx
    have hs : y.data.toList.length = y.size := by simp
    rw [hs]
    exact h y hy)
  simpa using this
theorem escV_size {s : ByteArray} (h : s.size ≤ 1000) : (escV s).size ≤ 3000 := by
  unfold escV
  rw [bs_size]
  have := (escL_len s.data.toList).2
  have h2 : s.data.toList.length = s.size := by simp
  omega
theorem escV_big {s : ByteArray} (h : s.size ≤ 1100000) : (escV s).size ≤ 3300000 := by
  unfold escV
  rw [bs_size]
  have := (escL_len s.data.toList).2
  have h2 : s.data.toList.length = s.size := by simp
  omega
theorem sl_cap {w : World} {A : Option Addr} {n c m : Nat} {xs : List Value} (h : Sl w 9 1 (.slice A n c) m xs) : n ≤ c := by
  obtain ⟨A3, c3, e, h1, _⟩ := h.slice
  cases e
  exact h1
set_option maxRecDepth 100000 in
set_option maxHeartbeats 4000000 in
theorem line_say (k id fk : Int) (data text : ByteArray) (hk : k = 5 ∨ k = 6) (ht : text.size ≤ 1100000) (h : rightV ⟨k, id, fk, data, text⟩ = true) (w : World) (hv : VarsC w) : Calls Tryd.prog 11 #[outArg ⟨k, id, fk, data, text⟩] w (LinePost ⟨k, id, fk, data, text⟩ w) := by
  have HR := Lib.hid (fun W => right_any ⟨k, id, fk, data, text⟩ W)
  rw [h] at HR
  obtain ⟨i0, hi, hz0, hz1, hz2⟩ := info_parts str_info
  unfold LinePost
  rw [lineV_yes h]
  unfold outArg at *
  have HV := Lib.hid hv
  clear h hv
  dsimp only at HR ⊢
  have HE := Lib.hid (fun W => escape_any text (by omega) W)
  rcases hk with rfl | rfl
  · have hES := escV_big ht
    have HEL := Lib.hid (show (escV text).data.toList = escL text.data.toList from bs_list _)
    generalize escV text = ev at *
    have HWC := Lib.hid (word_cell (k := 5) (by decide))
    have hws := wordB_size ⟨5, by decide⟩
    simp only at hws
    obtain ⟨LL, hLL⟩ : ∃ LL, lineL ⟨5, id, fk, data, text⟩ = LL := ⟨_, rfl⟩
    rw [hLL]
    have HLL := Lib.hid hLL
    clear hLL
    have HW0 := Lib.hid (show (wordB 5).data.toList = wordT 5 from rfl)
    generalize wordB 5 = y at *
    have HB0 := Lib.hid ((Below.refl w.heap.size w).alloc (Nat.le_refl _) (.cells #[.int .i64 5, .int .i64 id, .int .i64 fk, .string data, .string text] 27))
    have HK0 := Lib.hid (Blk.new w 27 #[.int .i64 5, .int .i64 id, .int .i64 fk, .string data, .string text])
    go_enter Tryd.func11, Tryd.ntmps11
    go_wp2_with fail
    refine (HR.out _).mono ?_
    rintro e w1 ⟨rfl, b1⟩
    have hk1 := Blk.b (by exact HK0.out) b1
    have HB1 := Lib.hid (HB0.out.trans (b1.mono HB0.out.size))
    have hl1 := hk1.lt
    have c0 := hk1.cell 0
    have c1 := hk1.cell 1
    have c2 := hk1.cell 2
    have c3 := hk1.cell 3
    have c4 := hk1.cell 4
    simp at c0 c1 c2 c3 c4
    have HK1 := Lib.hid hk1
    clear b1 hk1 HK0 HR
    go_wp2_with fail
    go_region_with (go_at_call 24; refine (words_any _).mono ?_; rintro e w4 ⟨gv, cv, rfl, hcv, hgv, hbv, b4⟩; have bb4 : B w1 w4 := B_trans (by (repeat (first | assumption | exact B_refl _ | refine B_drewN ?_ _ | refine B_drew ?_ | refine B_alloc ?_ _ | refine B_setCell ?_ (by first | (simp; done) | (simp; omega)) _ | refine B_trans ?_ (by assumption)))) b4; have kv : w4.cell? ⟨gv, 5, none⟩ = some (.string y) := (hbv.cell 5).trans HWC.out; have h4b : Blk w4 w.heap.size 27 #[.int .i64 5, .int .i64 id, .int .i64 fk, .string data, .string text] := HK1.out.b bb4; have d0 := h4b.cell 0; have d1 := h4b.cell 1; have d2 := h4b.cell 2; have d3 := h4b.cell 3; have d4 := h4b.cell 4; have hl4 := h4b.lt; have HK4 := Lib.hid h4b; have HB4 := Lib.hid bb4; simp at d0 d1 d2 d3 d4; clear hbv b4 hgv hcv h4b bb4)
    all_goals
      have HS5 := Lib.hid (sl_one (Blk.new w4 9 #[.string y]))
      have HB5 := Lib.hid (B_alloc HB4.out (.cells #[.string y] 9))
      have HK5 := Lib.hid (HK4.out.alloc (.cells #[.string y] 9))
      have hg5 : w1.heap.size ≤ w4.heap.size := HB4.out.size
      generalize w4.alloc (.cells #[.string y] 9) = W5 at *
      generalize w4.heap.size = g5 at *
      have k5 := HK5.out
      have d0 := k5.cell 0
      have d1 := k5.cell 1
      have d2 := k5.cell 2
      have d3 := k5.cell 3
      have d4 := k5.cell 4
      have hl5 := k5.lt
      simp at d0 d1 d2 d3 d4
      clear k5 HK4 HB4 c0 c1 c2 c3 c4
      clear HK1 HWC kv HB0
    all_goals
      have hj : (Lib.join (([y, ev]).map (·.data.toList)) [32]).length ≤ 140737488355328 := by
        have := join_le' (L := [y, ev]) (B := 3400000) (by intro x hx; simp only [List.mem_cons, List.not_mem_nil, or_false] at hx; rcases hx with rfl | rfl <;> omega)
        simp only [List.length_cons, List.length_nil] at this
        omega
      have HJ := Lib.hid (fun (A : Option Addr) (c : Nat) (W : World) (h : StrsAt W A [y, ev]) (hc : ([y, ev] : List ByteArray).length ≤ c) => join_any A c [y, ev] W h hc (by simp) (by simp) hj)
      clear hj
      have HLV := Lib.hid (show joinV [y, ev] = bs LL by rw [join_two', ← HLL.out, HW0.out, HEL.out]; rfl)
      go_wp2_with fail
      refine (HE.out _).mono ?_
      rintro e w6 ⟨rfl, b6⟩
      have HS6 := Lib.hid (Sl.b (by exact HS5.out) b6)
      have HB6 := Lib.hid (B_trans (by exact (by first | exact HB5.out | exact B_drew HB5.out | exact B_drewN HB5.out _)) b6 : B w1 w6)
      clear b6 d0 d1 d2 d3 d4
      go_wp2_with (at_builtin; refine wpList_append_sl _ rfl (.tmp 40) (.tmp 44) 45 rfl 9 i0 _ 1 16 Tryd.underlying45 hi hz0 hz1 hz2 rfl (by decide) (.slice (some ⟨g5, 0, none⟩) 1 1) 1 (encS [y]) rfl ?hs ⟨_, 0, none⟩ 1 1 [.string ev] rfl rfl ?hn ?h1 ?hm ?hb ?_)
      case hs => repeat (first | exact HS6.out | refine Sl.alloc ?_ _)
      case hn => exact news1 (by simp)
      case h1 => simp [Value.oneCell']
      case hm => unfold maxLen; omega
      case hb => omega
      intro A2 c2 w7 hs7 ho7 hl7
      have HS7 := Lib.hid (show Sl w7 9 1 (.slice A2 2 c2) 2 (encS [y, ev]) from hs7)
      have HB7 := Lib.hid (B_only (B_alloc HB6.out _) ho7 (by intro g hg; simp [Value.ownBlock] at hg; omega))
      clear hs7 ho7 hl7
      go_wp2_with fail
      refine (HJ.out _ _ _ (StrsAt.of_Sl HS7.out rfl) (sl_cap HS7.out)).mono ?_
      rintro e w8 ⟨rfl, b8⟩
      have B8 := Lib.hid (HB1.out.trans ((B_trans HB7.out b8).mono HB1.out.size))
      clear b8
      go_wp2_with fail
      go_ret2
      exact ⟨by rw [← HLV.out]; rfl, B8.out⟩
  · have hES := escV_big ht
    have HEL := Lib.hid (show (escV text).data.toList = escL text.data.toList from bs_list _)
    generalize escV text = ev at *
    have HWC := Lib.hid (word_cell (k := 6) (by decide))
    have hws := wordB_size ⟨6, by decide⟩
    simp only at hws
    obtain ⟨LL, hLL⟩ : ∃ LL, lineL ⟨6, id, fk, data, text⟩ = LL := ⟨_, rfl⟩
    rw [hLL]
    have HLL := Lib.hid hLL
    clear hLL
    have HW0 := Lib.hid (show (wordB 6).data.toList = wordT 6 from rfl)
    generalize wordB 6 = y at *
    have HB0 := Lib.hid ((Below.refl w.heap.size w).alloc (Nat.le_refl _) (.cells #[.int .i64 6, .int .i64 id, .int .i64 fk, .string data, .string text] 27))
    have HK0 := Lib.hid (Blk.new w 27 #[.int .i64 6, .int .i64 id, .int .i64 fk, .string data, .string text])
    go_enter Tryd.func11, Tryd.ntmps11
    go_wp2_with fail
    refine (HR.out _).mono ?_
    rintro e w1 ⟨rfl, b1⟩
    have hk1 := Blk.b (by exact HK0.out) b1
    have HB1 := Lib.hid (HB0.out.trans (b1.mono HB0.out.size))
    have hl1 := hk1.lt
    have c0 := hk1.cell 0
    have c1 := hk1.cell 1
    have c2 := hk1.cell 2
    have c3 := hk1.cell 3
    have c4 := hk1.cell 4
    simp at c0 c1 c2 c3 c4
    have HK1 := Lib.hid hk1
    clear b1 hk1 HK0 HR
    go_wp2_with fail
    go_region_with (go_at_call 24; refine (words_any _).mono ?_; rintro e w4 ⟨gv, cv, rfl, hcv, hgv, hbv, b4⟩; have bb4 : B w1 w4 := B_trans (by (repeat (first | assumption | exact B_refl _ | refine B_drewN ?_ _ | refine B_drew ?_ | refine B_alloc ?_ _ | refine B_setCell ?_ (by first | (simp; done) | (simp; omega)) _ | refine B_trans ?_ (by assumption)))) b4; have kv : w4.cell? ⟨gv, 6, none⟩ = some (.string y) := (hbv.cell 6).trans HWC.out; have h4b : Blk w4 w.heap.size 27 #[.int .i64 6, .int .i64 id, .int .i64 fk, .string data, .string text] := HK1.out.b bb4; have d0 := h4b.cell 0; have d1 := h4b.cell 1; have d2 := h4b.cell 2; have d3 := h4b.cell 3; have d4 := h4b.cell 4; have hl4 := h4b.lt; have HK4 := Lib.hid h4b; have HB4 := Lib.hid bb4; simp at d0 d1 d2 d3 d4; clear hbv b4 hgv hcv h4b bb4)
    all_goals
      have HS5 := Lib.hid (sl_one (Blk.new w4 9 #[.string y]))
      have HB5 := Lib.hid (B_alloc HB4.out (.cells #[.string y] 9))
      have HK5 := Lib.hid (HK4.out.alloc (.cells #[.string y] 9))
      have hg5 : w1.heap.size ≤ w4.heap.size := HB4.out.size
      generalize w4.alloc (.cells #[.string y] 9) = W5 at *
      generalize w4.heap.size = g5 at *
      have k5 := HK5.out
      have d0 := k5.cell 0
      have d1 := k5.cell 1
      have d2 := k5.cell 2
      have d3 := k5.cell 3
      have d4 := k5.cell 4
      have hl5 := k5.lt
      simp at d0 d1 d2 d3 d4
      clear k5 HK4 HB4 c0 c1 c2 c3 c4
      clear HK1 HWC kv HB0
    all_goals
      have hj : (Lib.join (([y, ev]).map (·.data.toList)) [32]).length ≤ 140737488355328 := by
        have := join_le' (L := [y, ev]) (B := 3400000) (by intro x hx; simp only [List.mem_cons, List.not_mem_nil, or_false] at hx; rcases hx with rfl | rfl <;> omega)
        simp only [List.length_cons, List.length_nil] at this
        omega
      have HJ := Lib.hid (fun (A : Option Addr) (c : Nat) (W : World) (h : StrsAt W A [y, ev]) (hc : ([y, ev] : List ByteArray).length ≤ c) => join_any A c [y, ev] W h hc (by simp) (by simp) hj)
      clear hj
      have HLV := Lib.hid (show joinV [y, ev] = bs LL by rw [join_two', ← HLL.out, HW0.out, HEL.out]; rfl)
      go_wp2_with fail
      refine (HE.out _).mono ?_
      rintro e w6 ⟨rfl, b6⟩
      have HS6 := Lib.hid (Sl.b (by exact HS5.out) b6)
      have HB6 := Lib.hid (B_trans (by exact (by first | exact HB5.out | exact B_drew HB5.out | exact B_drewN HB5.out _)) b6 : B w1 w6)
      clear b6 d0 d1 d2 d3 d4
      go_wp2_with (at_builtin; refine wpList_append_sl _ rfl (.tmp 40) (.tmp 44) 45 rfl 9 i0 _ 1 16 Tryd.underlying45 hi hz0 hz1 hz2 rfl (by decide) (.slice (some ⟨g5, 0, none⟩) 1 1) 1 (encS [y]) rfl ?hs ⟨_, 0, none⟩ 1 1 [.string ev] rfl rfl ?hn ?h1 ?hm ?hb ?_)
      case hs => repeat (first | exact HS6.out | refine Sl.alloc ?_ _)
      case hn => exact news1 (by simp)
      case h1 => simp [Value.oneCell']
      case hm => unfold maxLen; omega
      case hb => omega
      intro A2 c2 w7 hs7 ho7 hl7
      have HS7 := Lib.hid (show Sl w7 9 1 (.slice A2 2 c2) 2 (encS [y, ev]) from hs7)
      have HB7 := Lib.hid (B_only (B_alloc HB6.out _) ho7 (by intro g hg; simp [Value.ownBlock] at hg; omega))
      clear hs7 ho7 hl7
      go_wp2_with fail
      refine (HJ.out _ _ _ (StrsAt.of_Sl HS7.out rfl) (sl_cap HS7.out)).mono ?_
      rintro e w8 ⟨rfl, b8⟩
      have B8 := Lib.hid (HB1.out.trans ((B_trans HB7.out b8).mono HB1.out.size))
      clear b8
      go_wp2_with fail
      go_ret2
      exact ⟨by rw [← HLV.out]; rfl, B8.out⟩
set_option maxRecDepth 100000 in
set_option maxHeartbeats 4000000 in
theorem line_gone (k id fk : Int) (data text : ByteArray) (hk : k = 3 ∨ k = 4) (hid : 0 < id ∧ id ≤ 999999999) (h : rightV ⟨k, id, fk, data, text⟩ = true) (w : World) (hv : VarsC w) : Calls Tryd.prog 11 #[outArg ⟨k, id, fk, data, text⟩] w (LinePost ⟨k, id, fk, data, text⟩ w) := by
  have HR := Lib.hid (fun W => right_any ⟨k, id, fk, data, text⟩ W)
  rw [h] at HR
  obtain ⟨i0, hi, hz0, hz1, hz2⟩ := info_parts str_info
  unfold LinePost
  rw [lineV_yes h]
  unfold outArg at *
  have HV := Lib.hid hv
  clear h hv
  dsimp only at HR ⊢
  have hw : (Lit.int .i64 id).wf = true := wf_of (by omega)
  have HE := Lib.hid (fun W h => itoaC_any id hw W h)
  have hES : (bs (Lib.itoa id)).size ≤ 100 := by rw [bs_size]; exact itoa_len hw
  have HEL := Lib.hid (show (bs (Lib.itoa id)).data.toList = Lib.itoa id from bs_list _)
  clear hw
  rcases hk with rfl | rfl
  · generalize bs (Lib.itoa id) = ev at *
    have HWC := Lib.hid (word_cell (k := 3) (by decide))
    have hws := wordB_size ⟨3, by decide⟩
    simp only at hws
    obtain ⟨LL, hLL⟩ : ∃ LL, lineL ⟨3, id, fk, data, text⟩ = LL := ⟨_, rfl⟩
    rw [hLL]
    have HLL := Lib.hid hLL
    clear hLL
    have HW0 := Lib.hid (show (wordB 3).data.toList = wordT 3 from rfl)
    generalize wordB 3 = y at *
    have HB0 := Lib.hid ((Below.refl w.heap.size w).alloc (Nat.le_refl _) (.cells #[.int .i64 3, .int .i64 id, .int .i64 fk, .string data, .string text] 27))
    have HK0 := Lib.hid (Blk.new w 27 #[.int .i64 3, .int .i64 id, .int .i64 fk, .string data, .string text])
    go_enter Tryd.func11, Tryd.ntmps11
    go_wp2_with fail
    refine (HR.out _).mono ?_
    rintro e w1 ⟨rfl, b1⟩
    have hk1 := Blk.b (by exact HK0.out) b1
    have HB1 := Lib.hid (HB0.out.trans (b1.mono HB0.out.size))
    have hl1 := hk1.lt
    have c0 := hk1.cell 0
    have c1 := hk1.cell 1
    have c2 := hk1.cell 2
    have c3 := hk1.cell 3
    have c4 := hk1.cell 4
    simp at c0 c1 c2 c3 c4
    have HK1 := Lib.hid hk1
    clear b1 hk1 HK0 HR
    go_wp2_with fail
    go_region_with (go_at_call 24; refine (words_any _).mono ?_; rintro e w4 ⟨gv, cv, rfl, hcv, hgv, hbv, b4⟩; have bb4 : B w1 w4 := B_trans (by (repeat (first | assumption | exact B_refl _ | refine B_drewN ?_ _ | refine B_drew ?_ | refine B_alloc ?_ _ | refine B_setCell ?_ (by first | (simp; done) | (simp; omega)) _ | refine B_trans ?_ (by assumption)))) b4; have kv : w4.cell? ⟨gv, 3, none⟩ = some (.string y) := (hbv.cell 3).trans HWC.out; have h4b : Blk w4 w.heap.size 27 #[.int .i64 3, .int .i64 id, .int .i64 fk, .string data, .string text] := HK1.out.b bb4; have d0 := h4b.cell 0; have d1 := h4b.cell 1; have d2 := h4b.cell 2; have d3 := h4b.cell 3; have d4 := h4b.cell 4; have hl4 := h4b.lt; have HK4 := Lib.hid h4b; have HB4 := Lib.hid bb4; simp at d0 d1 d2 d3 d4; clear hbv b4 hgv hcv h4b bb4)
    all_goals
      have HS5 := Lib.hid (sl_one (Blk.new w4 9 #[.string y]))
      have HB5 := Lib.hid (B_alloc HB4.out (.cells #[.string y] 9))
      have HK5 := Lib.hid (HK4.out.alloc (.cells #[.string y] 9))
      have hg5 : w1.heap.size ≤ w4.heap.size := HB4.out.size
      generalize w4.alloc (.cells #[.string y] 9) = W5 at *
      generalize w4.heap.size = g5 at *
      have k5 := HK5.out
      have d0 := k5.cell 0
      have d1 := k5.cell 1
      have d2 := k5.cell 2
      have d3 := k5.cell 3
      have d4 := k5.cell 4
      have hl5 := k5.lt
      simp at d0 d1 d2 d3 d4
      clear k5 HK4 HB4 c0 c1 c2 c3 c4
      clear HK1 HWC kv HB0
    all_goals
      have hj : (Lib.join (([y, ev]).map (·.data.toList)) [32]).length ≤ 140737488355328 := by
        have := join_le' (L := [y, ev]) (B := 3400000) (by intro x hx; simp only [List.mem_cons, List.not_mem_nil, or_false] at hx; rcases hx with rfl | rfl <;> omega)
        simp only [List.length_cons, List.length_nil] at this
        omega
      have HJ := Lib.hid (fun (A : Option Addr) (c : Nat) (W : World) (h : StrsAt W A [y, ev]) (hc : ([y, ev] : List ByteArray).length ≤ c) => join_any A c [y, ev] W h hc (by simp) (by simp) hj)
      clear hj
      have HLV := Lib.hid (show joinV [y, ev] = bs LL by rw [join_two', ← HLL.out, HW0.out, HEL.out]; rfl)
      go_wp2_with fail
      refine (HE.out _ (HV.out.below (HB1.out.trans ((by first | exact HB5.out | exact B_drew HB5.out | exact B_drewN HB5.out _ : B w1 _).mono HB1.out.size)))).mono ?_
      rintro e w6 ⟨rfl, b6⟩
      have HS6 := Lib.hid (Sl.b (by exact HS5.out) b6)
      have HB6 := Lib.hid (B_trans (by exact (by first | exact HB5.out | exact B_drew HB5.out | exact B_drewN HB5.out _)) b6 : B w1 w6)
      clear b6 d0 d1 d2 d3 d4
      go_wp2_with (at_builtin; refine wpList_append_sl _ rfl (.tmp 59) (.tmp 63) 45 rfl 9 i0 _ 1 16 Tryd.underlying45 hi hz0 hz1 hz2 rfl (by decide) (.slice (some ⟨g5, 0, none⟩) 1 1) 1 (encS [y]) rfl ?hs ⟨_, 0, none⟩ 1 1 [.string ev] rfl rfl ?hn ?h1 ?hm ?hb ?_)
      case hs => repeat (first | exact HS6.out | refine Sl.alloc ?_ _)
      case hn => exact news1 (by simp)
      case h1 => simp [Value.oneCell']
      case hm => unfold maxLen; omega
      case hb => omega
      intro A2 c2 w7 hs7 ho7 hl7
      have HS7 := Lib.hid (show Sl w7 9 1 (.slice A2 2 c2) 2 (encS [y, ev]) from hs7)
      have HB7 := Lib.hid (B_only (B_alloc HB6.out _) ho7 (by intro g hg; simp [Value.ownBlock] at hg; omega))
      clear hs7 ho7 hl7
      go_wp2_with fail
      refine (HJ.out _ _ _ (StrsAt.of_Sl HS7.out rfl) (sl_cap HS7.out)).mono ?_
      rintro e w8 ⟨rfl, b8⟩
      have B8 := Lib.hid (HB1.out.trans ((B_trans HB7.out b8).mono HB1.out.size))
      clear b8
      go_wp2_with fail
      go_ret2
      exact ⟨by rw [← HLV.out]; rfl, B8.out⟩
  · generalize bs (Lib.itoa id) = ev at *
    have HWC := Lib.hid (word_cell (k := 4) (by decide))
    have hws := wordB_size ⟨4, by decide⟩
    simp only at hws
    obtain ⟨LL, hLL⟩ : ∃ LL, lineL ⟨4, id, fk, data, text⟩ = LL := ⟨_, rfl⟩
    rw [hLL]
    have HLL := Lib.hid hLL
    clear hLL
    have HW0 := Lib.hid (show (wordB 4).data.toList = wordT 4 from rfl)
    generalize wordB 4 = y at *
    have HB0 := Lib.hid ((Below.refl w.heap.size w).alloc (Nat.le_refl _) (.cells #[.int .i64 4, .int .i64 id, .int .i64 fk, .string data, .string text] 27))
    have HK0 := Lib.hid (Blk.new w 27 #[.int .i64 4, .int .i64 id, .int .i64 fk, .string data, .string text])
    go_enter Tryd.func11, Tryd.ntmps11
    go_wp2_with fail
    refine (HR.out _).mono ?_
    rintro e w1 ⟨rfl, b1⟩
    have hk1 := Blk.b (by exact HK0.out) b1
    have HB1 := Lib.hid (HB0.out.trans (b1.mono HB0.out.size))
    have hl1 := hk1.lt
    have c0 := hk1.cell 0
    have c1 := hk1.cell 1
    have c2 := hk1.cell 2
    have c3 := hk1.cell 3
    have c4 := hk1.cell 4
    simp at c0 c1 c2 c3 c4
    have HK1 := Lib.hid hk1
    clear b1 hk1 HK0 HR
    go_wp2_with fail
    go_region_with (go_at_call 24; refine (words_any _).mono ?_; rintro e w4 ⟨gv, cv, rfl, hcv, hgv, hbv, b4⟩; have bb4 : B w1 w4 := B_trans (by (repeat (first | assumption | exact B_refl _ | refine B_drewN ?_ _ | refine B_drew ?_ | refine B_alloc ?_ _ | refine B_setCell ?_ (by first | (simp; done) | (simp; omega)) _ | refine B_trans ?_ (by assumption)))) b4; have kv : w4.cell? ⟨gv, 4, none⟩ = some (.string y) := (hbv.cell 4).trans HWC.out; have h4b : Blk w4 w.heap.size 27 #[.int .i64 4, .int .i64 id, .int .i64 fk, .string data, .string text] := HK1.out.b bb4; have d0 := h4b.cell 0; have d1 := h4b.cell 1; have d2 := h4b.cell 2; have d3 := h4b.cell 3; have d4 := h4b.cell 4; have hl4 := h4b.lt; have HK4 := Lib.hid h4b; have HB4 := Lib.hid bb4; simp at d0 d1 d2 d3 d4; clear hbv b4 hgv hcv h4b bb4)
    all_goals
      have HS5 := Lib.hid (sl_one (Blk.new w4 9 #[.string y]))
      have HB5 := Lib.hid (B_alloc HB4.out (.cells #[.string y] 9))
      have HK5 := Lib.hid (HK4.out.alloc (.cells #[.string y] 9))
      have hg5 : w1.heap.size ≤ w4.heap.size := HB4.out.size
      generalize w4.alloc (.cells #[.string y] 9) = W5 at *
      generalize w4.heap.size = g5 at *
      have k5 := HK5.out
      have d0 := k5.cell 0
      have d1 := k5.cell 1
      have d2 := k5.cell 2
      have d3 := k5.cell 3
      have d4 := k5.cell 4
      have hl5 := k5.lt
      simp at d0 d1 d2 d3 d4
      clear k5 HK4 HB4 c0 c1 c2 c3 c4
      clear HK1 HWC kv HB0
    all_goals
      have hj : (Lib.join (([y, ev]).map (·.data.toList)) [32]).length ≤ 140737488355328 := by
        have := join_le' (L := [y, ev]) (B := 3400000) (by intro x hx; simp only [List.mem_cons, List.not_mem_nil, or_false] at hx; rcases hx with rfl | rfl <;> omega)
        simp only [List.length_cons, List.length_nil] at this
        omega
      have HJ := Lib.hid (fun (A : Option Addr) (c : Nat) (W : World) (h : StrsAt W A [y, ev]) (hc : ([y, ev] : List ByteArray).length ≤ c) => join_any A c [y, ev] W h hc (by simp) (by simp) hj)
      clear hj
      have HLV := Lib.hid (show joinV [y, ev] = bs LL by rw [join_two', ← HLL.out, HW0.out, HEL.out]; rfl)
      go_wp2_with fail
      refine (HE.out _ (HV.out.below (HB1.out.trans ((by first | exact HB5.out | exact B_drew HB5.out | exact B_drewN HB5.out _ : B w1 _).mono HB1.out.size)))).mono ?_
      rintro e w6 ⟨rfl, b6⟩
      have HS6 := Lib.hid (Sl.b (by exact HS5.out) b6)
      have HB6 := Lib.hid (B_trans (by exact (by first | exact HB5.out | exact B_drew HB5.out | exact B_drewN HB5.out _)) b6 : B w1 w6)
      clear b6 d0 d1 d2 d3 d4
      go_wp2_with (at_builtin; refine wpList_append_sl _ rfl (.tmp 59) (.tmp 63) 45 rfl 9 i0 _ 1 16 Tryd.underlying45 hi hz0 hz1 hz2 rfl (by decide) (.slice (some ⟨g5, 0, none⟩) 1 1) 1 (encS [y]) rfl ?hs ⟨_, 0, none⟩ 1 1 [.string ev] rfl rfl ?hn ?h1 ?hm ?hb ?_)
      case hs => repeat (first | exact HS6.out | refine Sl.alloc ?_ _)
      case hn => exact news1 (by simp)
      case h1 => simp [Value.oneCell']
      case hm => unfold maxLen; omega
      case hb => omega
      intro A2 c2 w7 hs7 ho7 hl7
      have HS7 := Lib.hid (show Sl w7 9 1 (.slice A2 2 c2) 2 (encS [y, ev]) from hs7)
      have HB7 := Lib.hid (B_only (B_alloc HB6.out _) ho7 (by intro g hg; simp [Value.ownBlock] at hg; omega))
      clear hs7 ho7 hl7
      go_wp2_with fail
      refine (HJ.out _ _ _ (StrsAt.of_Sl HS7.out rfl) (sl_cap HS7.out)).mono ?_
      rintro e w8 ⟨rfl, b8⟩
      have B8 := Lib.hid (HB1.out.trans ((B_trans HB7.out b8).mono HB1.out.size))
      clear b8
      go_wp2_with fail
      go_ret2
      exact ⟨by rw [← HLV.out]; rfl, B8.out⟩
end Go.Proofs.YthalpaggcdpcbaaDoor.Tr
