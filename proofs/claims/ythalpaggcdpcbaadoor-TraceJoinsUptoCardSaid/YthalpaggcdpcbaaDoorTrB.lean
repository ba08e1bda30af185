/- A strings.Builder of the call's own: its methods, with a frame told by the blocks that are to be kept. -/
import Derived.Test.YthalpaggcdpcbaaDoorTSt
import Derived.Lib.Builder
import Derived.Lib.AppendStr
import Derived.Lib.UnsafeStr
import Derived.Laws.Externs
namespace Go.Proofs.YthalpaggcdpcbaaDoor.Tr
open Go.RowKit Go.Proofs.YthalpaggcdpcbaaDoor Go.Proofs.YthalpaggcdpcbaaDoor.Nm
def TB : TypeId := 52
def TU : TypeId := 5
/-- A builder in block b that holds these bytes; its row, if any, is one of the blocks from B on. -/
def BX (w : World) (B b : Nat) (bs : List UInt8) : Prop :=
  ∃ p v, (p = .pointer none ∨ p = .pointer (some ⟨b, 0, none⟩)) ∧ w.heap[b]? = some (.cells #[p, v] TB (0, 0)) ∧ w.ownsRow B TU 1 v bs.length (Lib.byteCells bs) ∧ v.ownBlock ≠ some b
theorem byteC_length (l : List UInt8) : (Lib.byteCells l).length = l.length := by simp [Lib.byteCells]
theorem byteC_append (a b : List UInt8) : Lib.byteCells (a ++ b) = Lib.byteCells a ++ Lib.byteCells b := by simp [Lib.byteCells]
theorem own_move {w w' : World} {B n : Nat} {v : Value} {xs : List Value} (h : w.ownsRow B TU 1 v n xs) (hm : ∀ g, v.ownBlock = some g → w'.heap[g]? = w.heap[g]?) : w'.ownsRow B TU 1 v n xs := by
  refine ⟨h.1, ?_⟩
  rcases h.2 with h2 | ⟨g, cap, cur, rfl, hb, hg, r⟩
  · exact .inl h2
  · exact .inr ⟨g, cap, cur, rfl, hb, (hm g rfl).trans hg, r⟩
theorem own_less {w : World} {B C n : Nat} {v : Value} {xs : List Value} (h : w.ownsRow B TU 1 v n xs) (hc : C ≤ B) : w.ownsRow C TU 1 v n xs := by
  refine ⟨h.1, ?_⟩
  rcases h.2 with h2 | ⟨g, cap, cur, rfl, hb, r⟩
  · exact .inl h2
  · exact .inr ⟨g, cap, cur, rfl, Nat.le_trans hc hb, r⟩
section
variable {w w' : World} {B b : Nat} {bs : List UInt8}
theorem BX.lt (h : BX w B b bs) : b < w.heap.size := by
  obtain ⟨p, v, _, hb, _⟩ := h
  rcases Nat.lt_or_ge b w.heap.size with h' | h'
  · exact h'
  · simp [Array.getElem?_eq_none h'] at hb
theorem BX.new (w : World) (B : Nat) : BX (w.alloc (.cells #[.pointer none, .slice none 0 0] TB)) B w.heap.size [] :=
  ⟨_, _, .inl rfl, heap_alloc_new w _, World.ownsRow_nil _ _ _ _, by simp [Value.ownBlock]⟩
theorem BX.is (h : BX w B b bs) {C : Nat} (hc : C ≤ B) (hb' : C ≤ b) : Lib.IsBuilder TB TU C b (Lib.byteCells bs) w := by
  obtain ⟨p, v, hp, hb, ho, hn⟩ := h
  rcases hp with rfl | rfl
  · exact .inl ⟨hb', v, hb, by rw [byteC_length]; exact own_less ho hc, hn⟩
  · exact .inr ⟨hb', v, hb, by rw [byteC_length]; exact own_less ho hc, hn⟩
theorem BX.old (h : BX w B b bs) (hb : Go.Proofs.YthalpaggcdpcbaaDoor.B w w') : BX w' B b bs := by
  have hl := h.lt
  obtain ⟨p, v, hp, hh, ho, hn⟩ := h
  exact ⟨p, v, hp, (hb.block b hl).trans hh, own_move ho fun g hg => hb.block g (ho.lt g hg).2, hn⟩
theorem BX.alloc (h : BX w B b bs) (o : Obj) : BX (w.alloc o) B b bs := h.old (B_alloc (B_refl _) o)
theorem BX.drew (h : BX w B b bs) : BX w.drew B b bs := h
theorem BX.drewN (h : BX w B b bs) (n : Nat) : BX (w.drewN n) B b bs := h
end
/-- The frame of a write to the builder. -/
abbrev OB (B b : Nat) : World → World → Prop := Only (fun g => g = b ∨ B ≤ g)
theorem sizeB : (Tryd.prog.info? TB).map (·.size) = some 2 := by kernel_rfl
theorem liesB : liesAt Tryd.prog Tryd.prog.depth TB (2 / Tryd.prog.cellsOf TB) 0 TB 1 = true := by kernel_rfl
theorem infoU : (Tryd.prog.info? TU).map (fun i => (i.zero, i.size, i.bytes)) = some (some (.int .u8 0), 1, 1) := by kernel_rfl
set_option maxRecDepth 100000 in
theorem copy_used (b : Nat) (w : World) (h0 : w.cell? ⟨b, 0, none⟩ = some (.pointer (some ⟨b, 0, none⟩))) :
    Calls Tryd.prog 54 #[.pointer (some ⟨b, 0, none⟩)] w fun e w' => e = .returned (.tuple #[]) ∧ w' = w := by
  obtain ⟨j, hj, _⟩ := Option.map_eq_some_iff.1 sizeB
  go_enter Tryd.func54, Tryd.ntmps54
  go_wp2
  rw [Lib.run_neq_ptr_same w _ Tryd.underlying49 hj]
  go_wp2
  go_end0
  exact ⟨rfl, rfl⟩
set_option maxRecDepth 100000 in
set_option maxHeartbeats 1000000 in
theorem copy_fresh (b : Nat) (w : World) (h0 : w.cell? ⟨b, 0, none⟩ = some (.pointer none)) (hsh : w.shape? b = some (TB, 2)) (hfz : w.frozen? ⟨b, 0, none⟩ = false) :
    Calls Tryd.prog 54 #[.pointer (some ⟨b, 0, none⟩)] w fun e w' => e = .returned (.tuple #[]) ∧ w' = w.setCell ⟨b, 0, none⟩ (.pointer (some ⟨b, 0, none⟩)) := by
  obtain ⟨j, hj, hjs⟩ := Option.map_eq_some_iff.1 sizeB
  go_enter Tryd.func54, Tryd.ntmps54
  go_wp2
  rw [Lib.run_to_unsafe w ⟨b, 0, none⟩ Tryd.underlying49 Tryd.underlying84 hj (by rw [hjs]; decide) hsh (Nat.zero_lt_succ 1)]
  simp only [Result.andThen]
  rw [Oper.upon_value]
  go_wp2
  rw [run_callFunc_extern Tryd.func63 (by kernel_rfl) (by kernel_rfl) (by kernel_rfl) (e := Extern.AbiNoEscape.same) (by kernel_rfl)]
  rw [Lib.run_noEscape]
  simp only [Result.andThen]
  rw [Oper.upon_value]
  go_wp2
  rw [Lib.run_from_unsafe w ⟨b, 0, none⟩ Tryd.underlying84 Tryd.underlying49 hj hsh liesB]
  simp only [Result.andThen]
  rw [Oper.upon_value]
  go_wp2
  go_end0
  exact ⟨rfl, rfl⟩
/-- Behind copyCheck: the same bytes; only the builder's own block has turned. -/
theorem copy_any {B b : Nat} {bs : List UInt8} (w : World) (h : BX w B b bs) :
    Calls Tryd.prog 54 #[.pointer (some ⟨b, 0, none⟩)] w fun e w' => e = .returned (.tuple #[]) ∧ (∃ v, w'.heap[b]? = some (.cells #[.pointer (some ⟨b, 0, none⟩), v] TB (0, 0)) ∧ w'.ownsRow B TU 1 v bs.length (Lib.byteCells bs) ∧ v.ownBlock ≠ some b) ∧ Only (fun g => g = b) w w' := by
  obtain ⟨p, v, hp, hh, ho, hn⟩ := h
  rcases hp with rfl | rfl
  · refine (copy_fresh b w (by rw [Lib.cell_of_heap hh]; rfl) (by simp [World.shape?, hh]) (Lib.frozen_of_heap hh 0)).mono ?_
    rintro e w' ⟨rfl, rfl⟩
    refine ⟨rfl, ⟨v, ?_, ?_, hn⟩, Only.setCell (F := fun g => g = b) (Only.refl _ w) (p := ⟨b, 0, none⟩) (.inl rfl) _⟩
    · simp [World.setCell, Array.getElem?_modify, hh]
    · refine own_move ho fun g hg => heap_setCell_other w ⟨b, 0, none⟩ g _ (fun e => hn ?_)
      rw [hg]; exact congrArg some e
  · refine (copy_used b w (by rw [Lib.cell_of_heap hh]; rfl)).mono ?_
    rintro e w' ⟨rfl, rfl⟩
    exact ⟨rfl, ⟨v, hh, ho, hn⟩, Only.refl _ _⟩
theorem neTB : TB ≠ TU := by decide
/-- Behind the store of the new row. -/
theorem bx_done {w w0 w1 w2 : World} {B b n : Nat} {v v' : Value} {xs : List Value} {bs : List UInt8} (ho : Only (fun g => g = b) w w0) (h01 : Go.Proofs.YthalpaggcdpcbaaDoor.B w0 w1) (hBw : B ≤ w.heap.size) (hblt : b < w1.heap.size)
    (hb1 : w1.heap[b]? = some (.cells #[.pointer (some ⟨b, 0, none⟩), v] TB (0, 0))) (hown : w1.ownsRow B TU 1 v n xs) (hn : v.ownBlock ≠ some b) (hown' : w2.ownsRow B TU 1 v' bs.length (Lib.byteCells bs))
    (hg : w1.grownBy w2 v.ownBlock) : BX (w2.setCell ⟨b, 1, none⟩ v') B b bs ∧ OB B b w (w2.setCell ⟨b, 1, none⟩ v') := by
  have hb2 : w2.heap[b]? = some (.cells #[.pointer (some ⟨b, 0, none⟩), v] TB (0, 0)) := by
    rw [hg.block b hblt (fun e => hn e.symm)]
    exact hb1
  have hne := Lib.ownBlock_ne hown' hb2 neTB
  refine ⟨⟨.pointer (some ⟨b, 0, none⟩), v', .inr rfl, ?_, ?_, hne⟩, ?_⟩
  · simp [World.setCell, Array.getElem?_modify, hb2]
  · refine own_move hown' fun g hgv => heap_setCell_other w2 ⟨b, 1, none⟩ g _ (fun e => hne ?_)
    rw [hgv]; exact congrArg some e
  · have e1 : OB B b w w1 := (ho.mono fun i _ e => .inl e).trans (Only.of_B h01)
    have e2 : OB B b w1 w2 := Only.of_grown hg fun i _ hi => .inr ((hown.lt i hi).1)
    exact (e1.trans e2).setCell (p := ⟨b, 1, none⟩) (.inl (.inl rfl)) _
set_option maxHeartbeats 2000000 in
set_option maxRecDepth 100000 in
theorem writeByte_any {B b : Nat} {bs : List UInt8} (c : UInt8) (w : World) (h : BX w B b bs) (hlen : bs.length + 1 ≤ 140737488355328) (hBw : B ≤ w.heap.size) :
    Calls Tryd.prog 35 #[.pointer (some ⟨b, 0, none⟩), .int .u8 (c.toNat : Int)] w fun e w' => e = .returned .nilIface ∧ BX w' B b (bs ++ [c]) ∧ OB B b w w' := by
  obtain ⟨i0, hi, hz0, hz1, hz2⟩ := info_parts infoU
  have HCP := Lib.hid (copy_any w h)
  generalize hcn : (c.toNat : Int) = cn
  have HCN := Lib.hid hcn
  clear hcn
  go_enter Tryd.func35, Tryd.ntmps35
  go_wp2_with fail
  refine HCP.out.mono ?_
  rintro e w1 ⟨rfl, ⟨v, hbk, hown, hne⟩, ho⟩
  have c0 : w1.cell? ⟨b, 0, none⟩ = some (.pointer (some ⟨b, 0, none⟩)) := by rw [Lib.cell_of_heap hbk]; rfl
  have c1 : w1.cell? ⟨b, 1, none⟩ = some v := by rw [Lib.cell_of_heap hbk]; rfl
  have hlt : b < w1.heap.size := by
    rcases Nat.lt_or_ge b w1.heap.size with h' | h'
    · exact h'
    · simp [Array.getElem?_eq_none h'] at hbk
  have HO := Lib.hid ho
  have HOW := Lib.hid hown
  have HBK := Lib.hid hbk
  have HNE := Lib.hid hne
  clear ho hown hbk hne h
  go_wp2_with (at_builtin; refine wpList_append_own _ rfl _ _ 50 rfl B TU i0 (.int .u8 0) 1 1 Tryd.underlying50 hi hz0 hz1 hz2 rfl (by decide) _ _ _ rfl (HOW.out.alloc _) ⟨w1.heap.size, 0, none⟩ 1 1 [.int .u8 cn] rfl rfl ?c1 ?c2 ?c3 ?c4 ?c5 ?_)
  case c1 => exact news1 (by simp)
  case c2 => intro u hu; simp at hu; subst hu; rfl
  case c3 => unfold maxLen; omega
  case c4 => omega
  case c5 => have := HO.out.size; simp; omega
  intro v' w2 hown' hgrow _
  have hb1 : (w1.alloc (.cells #[.int .u8 cn] TU)).heap[b]? = some (.cells #[.pointer (some ⟨b, 0, none⟩), v] TB (0, 0)) := heap_at_old hlt HBK.out
  have hb2 : w2.heap[b]? = some (.cells #[.pointer (some ⟨b, 0, none⟩), v] TB (0, 0)) := by
    rw [hgrow.block b (by simp; omega) (fun e => HNE.out e.symm)]
    exact hb1
  have d0 : w2.cell? ⟨b, 0, none⟩ = some (.pointer (some ⟨b, 0, none⟩)) := by rw [Lib.cell_of_heap hb2]; rfl
  have d1 : w2.cell? ⟨b, 1, none⟩ = some v := by rw [Lib.cell_of_heap hb2]; rfl
  have f1 : w2.frozen? ⟨b, 1, none⟩ = false := Lib.frozen_of_heap hb2 1
  have HD := Lib.hid (bx_done (bs := bs ++ [c]) HO.out (B_alloc (B_refl w1) _) hBw (by simp; omega) hb1 (HOW.out.alloc _) HNE.out (by have e := HCN.out; subst e; rw [byteC_append, List.length_append]; exact hown') hgrow)
  obtain ⟨ao, n', cap, rfl⟩ : ∃ ao n' cap, v' = .slice ao n' cap := by
    rcases hown'.2 with ⟨hv, _⟩ | ⟨g, cap, cur, hv, _⟩
    · exact ⟨_, _, _, hv⟩
    · exact ⟨_, _, _, hv⟩
  clear hown' hgrow hb1 hb2
  go_wp2_with fail
  go_ret
  exact ⟨rfl, HD.out.1, HD.out.2⟩
set_option maxHeartbeats 2000000 in
set_option maxRecDepth 100000 in
theorem write_any {B b : Nat} {bs : List UInt8} (ns : List UInt8) (g n c : Nat) (hnl : ns.length = n) (hgb : g ≠ b) (w : World) (h : BX w B b bs) (hlen : bs.length + n ≤ 140737488355328) (hBw : B ≤ w.heap.size) (hc : ∀ (j : Nat) (u : Value), (Lib.byteCells ns)[j]? = some u → w.cell? ⟨g, 0 + j, none⟩ = some u) :
    Calls Tryd.prog 36 #[.pointer (some ⟨b, 0, none⟩), .slice (some ⟨g, 0, none⟩) n c] w fun e w' => e = .returned (.tuple #[.int .i64 (n : Int), .nilIface]) ∧ BX w' B b (bs ++ ns) ∧ OB B b w w' := by
  obtain ⟨i0, hi, hz0, hz1, hz2⟩ := info_parts infoU
  have HCP := Lib.hid (copy_any w h)
  have HC := Lib.hid hc
  have HNL := Lib.hid hnl
  clear hc hnl
  go_enter Tryd.func36, Tryd.ntmps36
  go_wp2_with fail
  refine HCP.out.mono ?_
  rintro e w1 ⟨rfl, ⟨v, hbk, hown, hne⟩, ho⟩
  have c0 : w1.cell? ⟨b, 0, none⟩ = some (.pointer (some ⟨b, 0, none⟩)) := by rw [Lib.cell_of_heap hbk]; rfl
  have c1 : w1.cell? ⟨b, 1, none⟩ = some v := by rw [Lib.cell_of_heap hbk]; rfl
  have hlt : b < w1.heap.size := by
    rcases Nat.lt_or_ge b w1.heap.size with h' | h'
    · exact h'
    · simp [Array.getElem?_eq_none h'] at hbk
  have HO := Lib.hid ho
  have HOW := Lib.hid hown
  have HBK := Lib.hid hbk
  have HNE := Lib.hid hne
  clear ho hown hbk hne h
  have hc1 : ∀ (j : Nat) (u : Value), (Lib.byteCells ns)[j]? = some u → w1.cell? ((⟨g, 0, none⟩ : Addr).add j) = some u := fun j u hj => by
    have h0 := HC.out j u hj
    have hlt0 := World.block_lt_of_cell? w _ h0
    rw [addr_add]
    exact (HO.out.cell (a := ⟨g, 0 + j, none⟩) hlt0 hgb).trans h0
  have HC1 := Lib.hid hc1
  clear hc1
  go_wp2_with (at_builtin; refine wpList_append_own _ rfl _ _ 50 rfl B TU i0 (.int .u8 0) 1 1 Tryd.underlying50 hi hz0 hz1 hz2 rfl (by decide) _ _ _ rfl HOW.out ⟨g, 0, none⟩ n c (Lib.byteCells ns) rfl (by rw [byteC_length, Nat.mul_one]; exact HNL.out) HC1.out ?c2 ?c3 ?c4 ?c5 ?_)
  case c2 => intro u hu; obtain ⟨x, _, rfl⟩ := List.mem_map.1 hu; rfl
  case c3 => unfold maxLen; omega
  case c4 => omega
  case c5 => have := HO.out.size; simp; omega
  intro v' w2 hown' hgrow _
  have hb1 := HBK.out
  have hb2 : w2.heap[b]? = some (.cells #[.pointer (some ⟨b, 0, none⟩), v] TB (0, 0)) := by
    rw [hgrow.block b hlt (fun e => HNE.out e.symm)]
    exact hb1
  have d0 : w2.cell? ⟨b, 0, none⟩ = some (.pointer (some ⟨b, 0, none⟩)) := by rw [Lib.cell_of_heap hb2]; rfl
  have d1 : w2.cell? ⟨b, 1, none⟩ = some v := by rw [Lib.cell_of_heap hb2]; rfl
  have f1 : w2.frozen? ⟨b, 1, none⟩ = false := Lib.frozen_of_heap hb2 1
  have HD := Lib.hid (bx_done (bs := bs ++ ns) HO.out (B_refl w1) hBw hlt hb1 HOW.out HNE.out (by rw [byteC_append, List.length_append, HNL.out]; exact hown') hgrow)
  obtain ⟨ao, n', cap, rfl⟩ : ∃ ao n' cap, v' = .slice ao n' cap := by
    rcases hown'.2 with ⟨hv, _⟩ | ⟨g, cap, cur, hv, _⟩
    · exact ⟨_, _, _, hv⟩
    · exact ⟨_, _, _, hv⟩
  clear hown' hgrow hb1 hb2
  go_wp2_with fail
  go_ret2
  exact ⟨rfl, HD.out.1, HD.out.2⟩
end Go.Proofs.YthalpaggcdpcbaaDoor.Tr
