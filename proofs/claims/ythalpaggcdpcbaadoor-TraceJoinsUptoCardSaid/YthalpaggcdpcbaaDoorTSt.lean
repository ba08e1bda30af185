/- Lists of texts and of numbers in memory; a text cut at its blanks, and joined. -/
import Derived.Test.YthalpaggcdpcbaaDoorMem
import Derived.Test.YthalpaggcdpcbaaDoorSh
import Derived.Test.YthalpaggcdpcbaaDoorSp
import Derived.Test.YthalpaggcdpcbaaDoorNm
import Derived.Lib.Hide
import Derived.Lib.AppendIntMem
import Derived.Lib.AtoiErrMem
namespace Go.Proofs.YthalpaggcdpcbaaDoor.Nm
open Go.RowKit Go.Proofs.YthalpaggcdpcbaaDoor

def encS (l : List ByteArray) : List Value := l.map Value.string
def encI (l : List Int) : List Value := l.map (Value.int .i64)
theorem encS_append (a b : List ByteArray) : encS (a ++ b) = encS a ++ encS b := by simp [encS]
theorem encI_append (a b : List Int) : encI (a ++ b) = encI a ++ encI b := by simp [encI]
theorem encS_length (a : List ByteArray) : (encS a).length = a.length := by simp [encS]
theorem encI_length (a : List Int) : (encI a).length = a.length := by simp [encI]
/-- The cells of a list of texts. -/
def StrsAt (w : World) (A : Option Addr) (l : List ByteArray) : Prop := ∀ (j : Nat) (x : ByteArray), l[j]? = some x → ∃ g o, A = some ⟨g, o, none⟩ ∧ w.cell? ⟨g, o + j, none⟩ = some (.string x)
def NumsAt (w : World) (A : Option Addr) (l : List Int) : Prop := ∀ (j : Nat) (x : Int), l[j]? = some x → ∃ g o, A = some ⟨g, o, none⟩ ∧ w.cell? ⟨g, o + j, none⟩ = some (.int .i64 x)
theorem StrsAt.below {w w' : World} {A : Option Addr} {l : List ByteArray} (h : StrsAt w A l) (hb : Below w.heap.size w w') : StrsAt w' A l := fun j x hj => by
  obtain ⟨g, o, e, hc⟩ := h j x hj
  exact ⟨g, o, e, (hb.cell (p := ⟨g, o + j, none⟩) (World.block_lt_of_cell? w _ hc)).trans hc⟩
theorem NumsAt.below {w w' : World} {A : Option Addr} {l : List Int} (h : NumsAt w A l) (hb : Below w.heap.size w w') : NumsAt w' A l := fun j x hj => by
  obtain ⟨g, o, e, hc⟩ := h j x hj
  exact ⟨g, o, e, (hb.cell (p := ⟨g, o + j, none⟩) (World.block_lt_of_cell? w _ hc)).trans hc⟩
theorem StrsAt.set {w : World} {A : Option Addr} {l : List ByteArray} (h : StrsAt w A l) {g k : Nat} (hne : ∀ ad, A = some ad → ad.block ≠ g) (v : Value) : StrsAt (w.setCell ⟨g, k, none⟩ v) A l := fun j x hj => by
  obtain ⟨g', o, rfl, hc⟩ := h j x hj
  refine ⟨g', o, rfl, ?_⟩
  have := hne _ rfl
  rw [← hc]
  exact World.cell?_of_block (heap_setCell_other w ⟨g, k, none⟩ g' v this)
theorem StrsAt.nil (w : World) (A : Option Addr) : StrsAt w A [] := fun j x hj => by simp at hj
theorem NumsAt.nil (w : World) (A : Option Addr) : NumsAt w A [] := fun j x hj => by simp at hj
theorem StrsAt.of_Sl {w : World} {A : Option Addr} {c n : Nat} {l : List ByteArray} (h : Sl w 9 1 (.slice A n c) n (encS l)) (hn : l.length = n) : StrsAt w A l := fun j x hj => by
  have hl := (List.getElem?_eq_some_iff.1 hj).1
  obtain ⟨g, o, rfl, _, hc⟩ := h.cells (by omega)
  exact ⟨g, o, rfl, hc j (.string x) (by simp [encS, hj])⟩
theorem NumsAt.of_Sl {w : World} {A : Option Addr} {c n : Nat} {l : List Int} (h : Sl w 3 1 (.slice A n c) n (encI l)) (hn : l.length = n) : NumsAt w A l := fun j x hj => by
  have hl := (List.getElem?_eq_some_iff.1 hj).1
  obtain ⟨g, o, rfl, _, hc⟩ := h.cells (by omega)
  exact ⟨g, o, rfl, hc j (.int .i64 x) (by simp [encI, hj])⟩
theorem StrsAt.new (w : World) (l : List ByteArray) : StrsAt (w.alloc (.cells (l.map Value.string).toArray 9)) (some ⟨w.heap.size, 0, none⟩) l := fun j x hj => by
  refine ⟨_, _, rfl, ?_⟩
  simp only [World.cell?]
  rw [heap_alloc_new]
  simp [hj]
theorem StrsAt.take {w : World} {A : Option Addr} {l : List ByteArray} (h : StrsAt w A l) (k : Nat) : StrsAt w A (l.take k) := fun j x hj => h j x (by
  rw [List.getElem?_take] at hj
  split at hj
  · exact hj
  · cases hj)
theorem StrsAt.cells {w : World} {A : Option Addr} {l : List ByteArray} (h : StrsAt w A l) (hn : 0 < l.length) : ∃ g o, A = some ⟨g, o, none⟩ ∧ g < w.heap.size ∧ ∀ (j : Nat) (x : ByteArray), l[j]? = some x → w.cell? ⟨g, o + j, none⟩ = some (.string x) := by
  obtain ⟨g, o, rfl, hc⟩ := h 0 _ (List.getElem?_eq_getElem hn)
  refine ⟨g, o, rfl, World.block_lt_of_cell? w _ hc, fun j x hj => ?_⟩
  obtain ⟨g', o', e, hc'⟩ := h j x hj
  cases e
  exact hc'
theorem str_info : (Tryd.prog.info? 9).map (fun i => (i.zero, i.size, i.bytes)) = some (some (.string ByteArray.empty), 1, 16) := by kernel_rfl
theorem int_info : (Tryd.prog.info? 3).map (fun i => (i.zero, i.size, i.bytes)) = some (some (.int .i64 0), 1, 8) := by kernel_rfl

/-- A list of bytes as a text. -/
def bs (l : List UInt8) : ByteArray := ⟨l.toArray⟩
theorem bs_list (l : List UInt8) : (bs l).data.toList = l := by simp [bs]
theorem bs_size (l : List UInt8) : (bs l).size = l.length := by simp [bs, ByteArray.size]
theorem of_bs (s : ByteArray) : bs s.data.toList = s := by
  obtain ⟨d⟩ := s
  simp [bs]
theorem bs_inj {a b : List UInt8} (h : bs a = bs b) : a = b := by rw [← bs_list a, h, bs_list]
theorem bs_append (a b : List UInt8) : bs a ++ bs b = bs (a ++ b) := by
  apply ByteArray.ext
  simp [bs, ByteArray.data_append]
theorem map_list_inj : ∀ {a b : List ByteArray}, a.map (·.data.toList) = b.map (·.data.toList) → a = b
  | [], [], _ => rfl
  | [], _ :: _, h => by cases h
  | _ :: _, [], h => by cases h
  | x :: r, y :: s, h => by
    simp only [List.map_cons, List.cons.injEq] at h
    rw [map_list_inj h.2, ← of_bs x, h.1, of_bs]
/-- The pieces of a text between its bytes c. -/
def cutV (c : UInt8) (s : ByteArray) : List ByteArray := Lib.splitB (Sp.one c) 0 (Lib.countB s (Sp.one c)) s
theorem cutV_pieces (c : UInt8) (s : ByteArray) : Sp.Pieces c s.data.toList ((cutV c s).map (·.data.toList)) := Sp.split_pieces c _ s rfl
theorem cutV_len (c : UInt8) (s : ByteArray) : (cutV c s).length = Lib.countB s (Sp.one c) + 1 := Lib.splitB_all (Sp.one c) (Nat.le_refl _) 0 _ s rfl
theorem cutV_one {c : UInt8} {s : ByteArray} {l : List ByteArray} (h : Sp.Pieces c s.data.toList (l.map (·.data.toList))) : l = cutV c s := map_list_inj (Sp.unique h (cutV_pieces c s))
theorem len_le_join {sep x : List UInt8} : ∀ {L : List (List UInt8)}, x ∈ L → x.length ≤ (Lib.join L sep).length
  | [], h => by cases h
  | [y], h => by rw [List.mem_singleton.1 h, Lib.join_one]; exact Nat.le_refl _
  | y :: z :: r, h => by
    rw [Sp.join_two, List.length_append, List.length_append]
    rcases List.mem_cons.1 h with rfl | h
    · omega
    · have := len_le_join (sep := sep) h
      omega
theorem cutV_le (c : UInt8) (s : ByteArray) : (cutV c s).length ≤ s.size + 1 := by
  have h1 := Lib.countB_le (Sp.one c) (Nat.le_refl _) s.size s (Nat.le_refl _)
  have h2 := cutV_len c s
  omega
theorem cutV_mem {c : UInt8} {s x : ByteArray} (h : x ∈ cutV c s) : x.size ≤ s.size := by
  have h3 := cutV_pieces c s
  have := len_le_join (sep := [c]) (List.mem_map_of_mem (f := fun x : ByteArray => x.data.toList) h)
  rw [h3.2.2, Array.length_toList, Array.length_toList] at this
  exact this
/-- The library's variables that are read here: as they must be. -/
structure Vars (w : World) : Prop where
  most : ∃ m, w.cell? ⟨0, 0, none⟩ = some (.int .i64 m)
  syn : ∃ ev, w.cell? ⟨2, 0, none⟩ = some ev ∧ (ev = .nilIface ∨ ∃ te pe, ev = .iface te pe)
  ran : ∃ ev, w.cell? ⟨3, 0, none⟩ = some ev ∧ (ev = .nilIface ∨ ∃ te pe, ev = .iface te pe)
  tab : Lib.TabIs Tryd.prog w "internal/strconv.uint64pow10" .u64 Lib.pow10Tab
theorem Vars.below {w w1 : World} (h : Vars w) (hb : Below w.heap.size w w1) : Vars w1 := by
  obtain ⟨⟨m, h1⟩, ⟨e2, h2, r2⟩, ⟨e3, h3, r3⟩, h4⟩ := h
  exact ⟨⟨m, (hb.cell (World.block_lt_of_cell? w _ h1)).trans h1⟩, ⟨e2, (hb.cell (World.block_lt_of_cell? w _ h2)).trans h2, r2⟩, ⟨e3, (hb.cell (World.block_lt_of_cell? w _ h3)).trans h3, r3⟩, Lib.tabBelow_of_tabIs h4 _ hb⟩
def joinV (l : List ByteArray) : ByteArray := bs (Lib.join (l.map (·.data.toList)) [32])
theorem join_any (A : Option Addr) (c : Nat) (l : List ByteArray) (w : World) (ha : StrsAt w A l) (hc : l.length ≤ c) (h0 : 0 < l.length) (hlen : l.length ≤ 140737488355328) (hl : (Lib.join (l.map (·.data.toList)) [32]).length ≤ 140737488355328) :
    Calls Tryd.prog 27 #[.slice A l.length c, .string (Sp.one 32)] w fun e w' => e = .returned (.string (joinV l)) ∧ Below w.heap.size w w' := by
  obtain ⟨g, o, rfl, hg, hcell⟩ := ha.cells h0
  exact Tryd.strings_Join g o c l (Sp.one 32) w hcell hg hlen hc hl
theorem itoa_any (n : Int) (h : (Lit.int .i64 n).wf = true) (w : World) (hv : Vars w) :
    Calls Tryd.prog 25 #[.int .i64 n] w fun e w' => e = .returned (.string (bs (Lib.itoa n))) ∧ Below w.heap.size w w' := by
  have h2 : -9223372036854775808 ≤ n ∧ n ≤ 9223372036854775807 := by simpa [Lit.wf, IntKind.min, IntKind.max, IntKind.signed, IntKind.bits] using h
  refine (Tryd.strconv_Itoa n h2.1 h2.2 w hv.tab).mono ?_
  rintro e w' ⟨rfl, k, os, rfl⟩
  exact ⟨rfl, Lib.below_grow _ _ (Nat.le_refl _) _ _⟩
/-- The table that numerals read. -/
def VarsC (w : World) : Prop := Lib.TabIs Tryd.prog w "internal/strconv.uint64pow10" .u64 Lib.pow10Tab
theorem VarsC.below {w w1 : World} (h : VarsC w) (hb : Below w.heap.size w w1) : VarsC w1 := Lib.tabBelow_of_tabIs h _ hb
theorem itoaC_any (n : Int) (h : (Lit.int .i64 n).wf = true) (w : World) (hv : VarsC w) :
    Calls Tryd.prog 25 #[.int .i64 n] w fun e w' => e = .returned (.string (bs (Lib.itoa n))) ∧ Below w.heap.size w w' := by
  have h2 : -9223372036854775808 ≤ n ∧ n ≤ 9223372036854775807 := by simpa [Lit.wf, IntKind.min, IntKind.max, IntKind.signed, IntKind.bits] using h
  refine (Tryd.strconv_Itoa n h2.1 h2.2 w hv).mono ?_
  rintro e w' ⟨rfl, k, os, rfl⟩
  exact ⟨rfl, Lib.below_grow _ _ (Nat.le_refl _) _ _⟩
theorem numEnd_cases {α : Type} : ∀ e : Lib.NumEnd α, (∃ v, e = .ok v) ∨ e = .range ∨ ((∀ v, e ≠ .ok v) ∧ e ≠ .range ∧ e = Lib.NumEnd.syntax)
  | .ok v => .inl ⟨v, rfl⟩
  | .range => .inr (.inl rfl)
  | Lib.NumEnd.syntax => .inr (.inr ⟨fun v h => (by cases h), fun h => (by cases h), rfl⟩)
/-- strconv.Atoi: a number and no error, or an error. -/
def AtoiPost (s : ByteArray) (w : World) (e : Ending) (w' : World) : Prop := ((∃ v, Lib.atoiAll s.data.toList = .ok v ∧ e = .returned (.tuple #[.int .i64 v, .nilIface])) ∨
  ((∀ v, Lib.atoiAll s.data.toList ≠ .ok v) ∧ ∃ n N, e = .returned (.tuple #[.int .i64 n, .iface 100 (.pointer (some ⟨N, 0, none⟩))]))) ∧ Below w.heap.size w w'
theorem atoi_any (s : ByteArray) (hs : s.size ≤ 99999) (w : World) (hv : Vars w) :
    Calls Tryd.prog 58 #[.string s] w (AtoiPost s w) := by
  rcases numEnd_cases (Lib.atoiAll s.data.toList) with ⟨v, h⟩ | h | ⟨h0, _, h⟩
  · refine (Tryd.strconv_Atoi_ok s (by omega) v h w).mono ?_
    rintro e w' ⟨rfl, rfl | ⟨t, rfl⟩⟩
    · exact ⟨.inl ⟨v, h, rfl⟩, Below.refl _ _⟩
    · exact ⟨.inl ⟨v, h, rfl⟩, Lib.bytesWorld_below _ _ _⟩
  · obtain ⟨ev, h1, h2⟩ := hv.ran
    refine (Tryd.strconv_Atoi_range s (by omega) h ev w h1 h2).mono ?_
    rintro e w' ⟨N, rfl, _, _, hb⟩
    exact ⟨.inr ⟨fun v e => (by rw [h] at e; cases e), _, N, rfl⟩, hb⟩
  · obtain ⟨ev, h1, h2⟩ := hv.syn
    refine (Tryd.strconv_Atoi_syntax s (by omega) h ev w h1 h2).mono ?_
    rintro e w' ⟨N, rfl, _, _, hb⟩
    exact ⟨.inr ⟨h0, _, N, rfl⟩, hb⟩
end Go.Proofs.YthalpaggcdpcbaaDoor.Nm
