/- diff.Text and diff.Read: what they return, at short texts. -/
import Derived.Test.YtnnnlbbgmdoehaaDoorDfC
import Derived.Test.YtnnnlbbgmdoehaaDoorSp
namespace Go.Proofs.YtnnnlbbgmdoehaaDoor.Rd
open Go.RowKit Go.Proofs.YtnnnlbbgmdoehaaDoorW.PrintWords Go.Proofs.YtnnnlbbgmdoehaaDoorW.PrintLast Go.Proofs.YtnnnlbbgmdoehaaDoor Go.Proofs.YtnnnlbbgmdoehaaDoor.Df

/-- The library's variable MaxLen is a number. -/
def HM (w : World) : Prop := ∃ m, w.cell? ⟨0, 0, none⟩ = some (.int .i64 m)
theorem block_lt {w : World} {a : Addr} {v : Value} (h : w.cell? a = some v) : a.block < w.heap.size := by
  unfold World.cell? at h
  cases hb : w.heap[a.block]? with
  | none => rw [hb] at h; cases h
  | some o => exact (Array.getElem?_eq_some_iff.1 hb).1
theorem HM.below {w w1 : World} (h : HM w) (hb : Below w.heap.size w w1) : HM w1 := by
  obtain ⟨m, hm⟩ := h
  exact ⟨m, (hb.cell (block_lt hm)).trans hm⟩

theorem C_new (w : World) (D : List ByteArray) (h : D.length ≤ 1000000) : Kd.C Kd.string (w.alloc (.cells (D.map Value.string).toArray 9)) (some ⟨w.heap.size, 0, none⟩) D.length D := by
  refine ⟨rfl, by omega, fun _ => ⟨_, rfl, fun j p hj => ⟨[.string p], rfl, rfl, fun i u hu => ?_⟩⟩⟩
  obtain rfl : i = 0 := by
    cases i with
    | zero => rfl
    | succ i => simp at hu
  simp only [List.getElem?_cons_zero, Option.some.injEq] at hu
  rw [show j * Kd.string.sz + 0 = j from Nat.mul_one j]
  have e : ((⟨w.heap.size, 0, none⟩ : Addr).add j) = ⟨w.heap.size, j, none⟩ := by
    unfold Addr.add
    split
    · rename_i h0; rw [h0]
    · simp
  rw [e]
  simp only [World.cell?]
  rw [heap_alloc_new]
  simp [hj, hu]

theorem len_le_join {sep x : List UInt8} : ∀ {L : List (List UInt8)}, x ∈ L → x.length ≤ (Lib.join L sep).length
  | [], h => by cases h
  | [y], h => by rw [List.mem_singleton.1 h, Lib.join_one]; exact Nat.le_refl _
  | y :: z :: r, h => by
    rw [Sp.join_two, List.length_append, List.length_append]
    rcases List.mem_cons.1 h with rfl | h
    · omega
    · have := len_le_join (sep := sep) h
      omega
theorem join_le {sep : List UInt8} (hs : sep.length ≤ 1) {B : Nat} : ∀ {L : List (List UInt8)}, (∀ x ∈ L, x.length ≤ B) → (Lib.join L sep).length ≤ L.length * (B + 1)
  | [], _ => by simp [Lib.join_nil]
  | [y], h => by
    rw [Lib.join_one]
    have := h y (by simp)
    simp only [List.length_singleton]
    omega
  | y :: z :: r, h => by
    have ih := join_le hs (L := z :: r) (fun x hx => h x (by simp [hx]))
    have := h y (by simp)
    rw [Sp.join_two, List.length_append, List.length_append, List.length_cons, Nat.add_mul]
    omega

/-- A list's text. -/
def textV (l : List ByteArray) : ByteArray := if l.length = 0 then ⟨#[45]⟩ else ⟨(Lib.join (l.map (·.data.toList)) [44]).toArray⟩
theorem join_small {l : List ByteArray} (hs : smallB l = true) : (Lib.join (l.map (·.data.toList)) [44]).length ≤ 140737488355328 := by
  have h1 := small_len hs
  have h2 := join_le (sep := [44]) (by decide) (B := 1000) (L := l.map (·.data.toList)) (fun x hx => by
    obtain ⟨s, hm, rfl⟩ := List.mem_map.1 hx
    obtain ⟨k, hk, rfl⟩ := List.getElem_of_mem hm
    have := small_at hs hk
    rw [List.getD_eq_getElem?_getD, List.getElem?_eq_getElem hk] at this
    rw [Array.length_toList]
    exact this)
  rw [List.length_map] at h2
  have h3 : l.length * (1000 + 1) ≤ 1000 * 1001 := Nat.mul_le_mul_right _ h1
  omega
theorem text_any (A : Option Addr) (c : Nat) (l : List ByteArray) (w : World) (hr : Kd.C Kd.string w A l.length l) (hc : l.length ≤ c) (hs : smallB l = true) :
    Calls Tryd.prog 11 #[.slice A l.length c] w fun e w' => e = .returned (.string (textV l)) ∧ Below w.heap.size w w' := by
  have hlen := small_len hs
  by_cases h0 : l.length = 0
  · have ht : textV l = ⟨#[45]⟩ := by unfold textV; rw [if_pos h0]
    rw [ht, h0]
    go_enter Tryd.func11, Tryd.ntmps11
    go_wp2
    go_ret
    exact ⟨rfl, Below.refl _ _⟩
  · have ht : textV l = ⟨(Lib.join (l.map (·.data.toList)) [44]).toArray⟩ := by unfold textV; rw [if_neg h0]
    obtain ⟨b, off, rfl, hcells⟩ := C_cell hr (k := 0) (by omega)
    have hj := Tryd.strings_Join b off c l ⟨#[44]⟩ w (fun j x hx => by
      obtain ⟨hj, e⟩ := List.getElem?_eq_some_iff.1 hx
      rw [hcells j hj, List.getD_eq_getElem?_getD, hx]; rfl) (block_lt (hcells 0 (by omega))) (by omega) hc (join_small hs)
    rw [← ht] at hj
    generalize textV l = t at hj ht ⊢
    have h1 : ((l.length : Int) == 0) = false := beq_eq_false_iff_ne.2 (by omega)
    have HJ := Lib.hid hj
    clear ht hj hcells hr hs
    generalize l.length = n at HJ h1 h0 ⊢
    go_enter Tryd.func11, Tryd.ntmps11
    go_wp2_with fail
    refine HJ.out.mono ?_
    rintro e w' ⟨rfl, hb⟩
    go_wp2
    go_ret
    exact ⟨rfl, hb⟩

/-- The pieces of a text between its commas. -/
def cutV (c : UInt8) (s : ByteArray) : List ByteArray := Lib.splitB (Sp.one c) 0 (Lib.countB s (Sp.one c)) s
theorem cutV_pieces (c : UInt8) (s : ByteArray) : Sp.Pieces c s.data.toList ((cutV c s).map (·.data.toList)) := Sp.split_pieces c _ s rfl
theorem cutV_len (c : UInt8) (s : ByteArray) : (cutV c s).length = Lib.countB s (Sp.one c) + 1 := Lib.splitB_all (Sp.one c) (Nat.le_refl _) 0 _ s rfl
theorem cutV_small (c : UInt8) (s : ByteArray) (hs : s.size ≤ 999) : smallB (cutV c s) = true := by
  have h1 := Lib.countB_le (Sp.one c) (Nat.le_refl _) s.size s (Nat.le_refl _)
  have h2 := cutV_len c s
  have h3 := cutV_pieces c s
  unfold smallB
  simp only [Bool.and_eq_true, decide_eq_true_eq, List.all_eq_true]
  refine ⟨by omega, fun x hx => ?_⟩
  have := len_le_join (sep := [c]) (List.mem_map_of_mem (f := fun x : ByteArray => x.data.toList) hx)
  rw [h3.2.2, Array.length_toList, Array.length_toList] at this
  have e1 : x.data.size = x.size := rfl
  have e2 : s.data.size = s.size := rfl
  omega
theorem split_any (c : UInt8) (s : ByteArray) (hs : s.size ≤ 999) (w : World) (hm : HM w) :
    Calls Tryd.prog 16 #[.string s, .string (Sp.one c)] w fun e w' => e = .returned (.slice (some ⟨w.heap.size, 0, none⟩) (cutV c s).length (cutV c s).length) ∧ w' = w.alloc (.cells ((cutV c s).map Value.string).toArray 9) := by
  obtain ⟨m, hm⟩ := hm
  have := Tryd.strings_Split s (Sp.one c) m w (by omega) hm (Nat.le_refl _)
  rw [cutV_len]
  exact this

/-- What is read of a text: a list, an error's number. -/
def readV (s : ByteArray) : List ByteArray × Int :=
  if s.toList = [] then ([], 2) else if s.toList = [45] then ([], 0) else if checkV (cutV 44 s) = 0 then (cutV 44 s, 0) else ([], checkV (cutV 44 s))
/-- A slice of texts, as a value that reads so. -/
def Row (w : World) (v : Value) (l : List ByteArray) : Prop := ∃ A c, v = .slice A l.length c ∧ l.length ≤ c ∧ Kd.C Kd.string w A l.length l
theorem Row.nil (w : World) : Row w (.slice none 0 0) [] := ⟨none, 0, rfl, Nat.le_refl _, Kd.C_nil _ _⟩
theorem read_any (s : ByteArray) (hs : s.size ≤ 999) (w : World) (hm : HM w) :
    Calls Tryd.prog 7 #[.string s] w fun e w' => ∃ v, e = .returned (.tuple #[v, .int .i64 (readV s).2]) ∧ Row w' v (readV s).1 ∧ Below w.heap.size w w' := by
  by_cases h0 : s.toList = []
  · have hv : readV s = ([], 2) := by unfold readV; rw [if_pos h0]
    rw [hv]
    have t1 : s.toList.isEmpty = true := by rw [h0]; rfl
    go_enter Tryd.func7, Tryd.ntmps7
    go_wp2
    go_ret2
    exact ⟨_, rfl, Row.nil _, Below.refl _ _⟩
  · by_cases h1 : s.toList = [45]
    · have hv : readV s = ([], 0) := by unfold readV; rw [if_neg h0, if_pos h1]
      rw [hv]
      have t1 : s.toList.isEmpty = false := by rw [h1]; rfl
      go_enter Tryd.func7, Tryd.ntmps7
      go_wp2
      go_ret2
      exact ⟨_, rfl, Row.nil _, Below.refl _ _⟩
    · have hsm := cutV_small 44 s hs
      have hlen := small_len hsm
      have hsp := split_any 44 s hs w hm
      have hck := check_any (some ⟨w.heap.size, 0, none⟩) (cutV 44 s).length (cutV 44 s) (w.alloc (.cells ((cutV 44 s).map Value.string).toArray 9)) (C_new w _ (by omega)) hsm
      have hcn := C_new w (cutV 44 s) (by omega)
      have hv : readV s = if checkV (cutV 44 s) = 0 then (cutV 44 s, 0) else ([], checkV (cutV 44 s)) := by unfold readV; rw [if_neg h0, if_neg h1]
      have t1 : s.toList.isEmpty = false := by rw [List.isEmpty_eq_false_iff]; exact h0
      have t2 : (s.toList == [45]) = false := beq_eq_false_iff_ne.2 h1
      rw [hv]
      have HB1 := Lib.hid (((Below.refl w.heap.size w).alloc (Nat.le_refl _) (.cells ((cutV 44 s).map Value.string).toArray 9)))
      generalize cutV 44 s = D at hsp hck hcn HB1 ⊢
      generalize hw1 : w.alloc (.cells (D.map Value.string).toArray 9) = w1 at hsp hck hcn HB1
      have HSP := Lib.hid hsp
      have HCK := Lib.hid hck
      have HCN := Lib.hid hcn
      clear hsp hck hcn hw1 h0 h1 hv hsm hlen
      by_cases hz : checkV D = 0
      · rw [if_pos hz]
        rw [hz] at HCK
        clear hz
        generalize hn : D.length = n at HSP HCK
        have HN := Lib.hid hn
        clear hn
        go_enter Tryd.func7, Tryd.ntmps7
        go_wp2_with fail
        refine HSP.out.mono ?_
        rintro e w2 ⟨rfl, rfl⟩
        go_wp2_with fail
        refine HCK.out.mono ?_
        rintro e w3 ⟨rfl, hb⟩
        go_wp2
        go_ret2
        refine ⟨_, rfl, ⟨_, _, by rw [HN.out]; rfl, by rw [HN.out]; exact Nat.le_refl _, Kd.C_below HCN.out hb⟩, HB1.out.trans (hb.mono HB1.out.size)⟩
      · rw [if_neg hz]
        have hzz : (checkV D != 0) = true := bne_iff_ne.2 hz
        generalize checkV D = e at HCK hzz ⊢
        clear hz
        generalize hn : D.length = n at HSP HCK
        clear hn
        go_enter Tryd.func7, Tryd.ntmps7
        go_wp2_with fail
        refine HSP.out.mono ?_
        rintro e w2 ⟨rfl, rfl⟩
        go_wp2_with fail
        refine HCK.out.mono ?_
        rintro e w3 ⟨rfl, hb⟩
        go_wp2
        go_ret2
        exact ⟨_, rfl, Row.nil _, HB1.out.trans (hb.mono HB1.out.size)⟩
end Go.Proofs.YtnnnlbbgmdoehaaDoor.Rd
