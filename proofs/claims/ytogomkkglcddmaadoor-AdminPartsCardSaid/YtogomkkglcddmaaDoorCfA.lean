/- A config in memory: whole blocks loaded and stored; config.places, config.bounds. -/
import Derived.Test.YtogomkkglcddmaaDoorSt
import Derived.Deep.MidRow
import Derived.StillTailTactics
import Derived.BigQuiet
import Derived.BigRegion
namespace Go.Proofs.YtogomkkglcddmaaDoor.Cf
open Go.RowKit Go.Proofs.YtogomkkglcddmaaDoor Go.Proofs.YtogomkkglcddmaaDoor.Nm

section
variable {P : Program} {w : World} {b : Nat} {t : TypeId} {C : Array Value}
theorem blk_range (h : Blk w b t C) : w.rangeAt b 0 C.toList := fun j v hv => by
  rw [Nat.zero_add, h.cell j]
  simpa using hv
theorem blk_there (h : Blk w b t C) : w.there b 0 C.size := fun j hj => by
  rw [Nat.zero_add]
  exact ⟨by rw [h.cell j, Array.getElem?_eq_getElem hj]; rfl, h.frozen j⟩
theorem load_blk {ops : Array Oper} {rest : List Oper} {op : Oper} {a : Act} {Q : Exit → Act → World → Prop} (hgd : op.guard = none) (x : Operand) (ho : op.op = .load t x)
    (hx : a.eval x = .pointer (some ⟨b, 0, none⟩)) (hB : Blk w b t C) (d : TypeDesc) (hu : P.underlying t = some d) (hd : d.isRow = true) (hi : (P.info? t).map (·.size) = some C.size)
    (h : wpList P ops Q rest (a.put op.dst (.agg C)) w) : wpList P ops Q (op :: rest) a w := by
  refine wpList_load_mid hgd t x ho b 0 hx C.toList d (blk_range hB) hu hd (by simpa using hi) ?_
  simpa using h
theorem load_blk_g {ops : Array Oper} {rest : List Oper} {op : Oper} {a : Act} {Q : Exit → Act → World → Prop} (hgd : Region.wanted op (yielded ops a.tmps) = true) (x : Operand) (ho : op.op = .load t x)
    (hx : a.eval x = .pointer (some ⟨b, 0, none⟩)) (hB : Blk w b t C) (d : TypeDesc) (hu : P.underlying t = some d) (hd : d.isRow = true) (hi : (P.info? t).map (·.size) = some C.size)
    (h : wpList P ops Q rest (a.put op.dst (.agg C)) w) : wpList P ops Q (op :: rest) a w := by
  unfold wpList
  rw [if_pos hgd]
  refine Or.inl (wp_load_mid t x ho b 0 hx C.toList d (blk_range hB) hu hd (by simpa using hi) ?_)
  simpa using h
theorem loadVar_blk (hB : Blk w b t C) (d : TypeDesc) (hu : P.underlying t = some d) (hd : d.isRow = true) (hi : (P.info? t).map (·.size) = some C.size) : (loadVar t ⟨b, 0, none⟩).run P w = .ok (.agg C) w := by
  have := run_loadVar_mid (P := P) w b 0 t C.toList d (blk_range hB) hu hd (by simpa using hi)
  simpa using this
theorem loadAt_blk (hB : Blk w b t C) (d : TypeDesc) (hu : P.underlying t = some d) (hd : d.isRow = true) (hi : (P.info? t).map (·.size) = some C.size) : (Instr.loadAt t (.pointer (some ⟨b, 0, none⟩))).run P w = .ok (.agg C) w := by
  have := run_loadAt_mid (P := P) w b 0 t C.toList d (blk_range hB) hu hd (by simpa using hi)
  simpa using this
/-- What is behind a store of a whole block. -/
theorem store_to {C0 : Array Value} (hB : Blk w b t C0) (hs : C0.size = C.size) : Blk (w.setCells b 0 C.toList) b t C ∧ Only (fun g => g = b) w (w.setCells b 0 C.toList) := by
  obtain ⟨cur, h1, h2, h3⟩ := setCells_at C.toList 0 w C0 hB (by simp; omega)
  have e : cur = C := by
    apply Array.toList_inj.1
    rw [h3]
    simp
    omega
  rw [e] at h1
  exact ⟨h1, Only.setCells (F := fun g => g = b) (.inl rfl) _ _ _ (Only.refl _ _)⟩
theorem store_blk {ops : Array Oper} {rest : List Oper} {op : Oper} {a : Act} {Q : Exit → Act → World → Prop} (hgd : op.guard = none) (x y : Operand) (ho : op.op = .store t x y)
    (hx : a.eval x = .pointer (some ⟨b, 0, none⟩)) (hy : a.eval y = .agg C) {C0 : Array Value} (hB : Blk w b t C0) (hs : C0.size = C.size) (hi : (P.info? t).map (·.size) = some C.size) (h1 : C.all (·.oneCell') = true)
    (h : ∀ w', Blk w' b t C → Only (fun g => g = b) w w' → wpList P ops Q rest (a.put op.dst undef) w') : wpList P ops Q (op :: rest) a w := by
  refine wpList_store_mid hgd t x y ho b 0 C hx hy (by rw [← hs]; exact blk_there hB) hi h1 ?_
  obtain ⟨k1, k2⟩ := store_to hB hs
  exact h _ k1 k2
end

theorem results_cell {P : Program} {fn : Func} {tmps : Array Value} {w : World} {t : Nat} {ty : TypeId} {b : Nat} {C : Array Value} (hr : fn.results = #[.cell t ty]) (hp : tmps.getD t undef = .pointer (some ⟨b, 0, none⟩)) (hL : (loadVar ty ⟨b, 0, none⟩).run P w = .ok (.agg C) w) :
    (results fn tmps).run P w = .ok (.agg C) w := by
  rw [Array.getD_eq_getD_getElem?] at hp
  simp [results, hr, hp, asAddr, hL]
theorem results_two {P : Program} {fn : Func} {tmps : Array Value} {w : World} {t k : Nat} {ty : TypeId} {b : Nat} {C : Array Value} {v : Value} (hr : fn.results = #[.cell t ty, .tmp k]) (hp : tmps.getD t undef = .pointer (some ⟨b, 0, none⟩)) (hk : tmps.getD k undef = v) (hL : (loadVar ty ⟨b, 0, none⟩).run P w = .ok (.agg C) w) :
    (results fn tmps).run P w = .ok (.tuple #[.agg C, v]) w := by
  rw [Array.getD_eq_getD_getElem?] at hp hk
  simp [results, hr, hp, hk, asAddr, hL]
theorem only_below {w w1 w2 : World} {p : Nat} (h : Below w.heap.size w w1) (ho : Only (fun g => g = p) w1 w2) (hp : w.heap.size ≤ p) : Below w.heap.size w w2 :=
  ((Only.of_B (F := fun _ => False) h).trans_new ho fun i hi he => by omega).to_B fun _ _ h => h
/-- A config's cells. -/
def cfgA (c : List Int) : Array Value := (encI c).toArray
theorem cfgA_size (c : List Int) : (cfgA c).size = c.length := by simp [cfgA, encI]
theorem cfgA_at {c : List Int} {i : Nat} {x : Int} (h : c[i]? = some x) : (cfgA c)[i]? = some (.int .i64 x) := by simp [cfgA, encI, h]
theorem cfgA_one (c : List Int) : (cfgA c).all (·.oneCell') = true := by
  unfold cfgA
  exact all_oneCell_toArray fun v hv => by
    obtain ⟨x, _, rfl⟩ := List.mem_map.1 hv
    rfl
theorem cfg_row : ∃ fs, Tryd.prog.underlying 40 = some (.struct fs) := ⟨_, Tryd.underlying40⟩
theorem cfg_size : (Tryd.prog.info? 40).map (·.size) = some 15 := by kernel_rfl
def ptrs (b : Nat) : Array Value := #[.pointer (some ⟨b, 0, none⟩), .pointer (some ⟨b, 1, none⟩), .pointer (some ⟨b, 2, none⟩), .pointer (some ⟨b, 3, none⟩), .pointer (some ⟨b, 4, none⟩), .pointer (some ⟨b, 5, none⟩), .pointer (some ⟨b, 6, none⟩), .pointer (some ⟨b, 7, none⟩),
  .pointer (some ⟨b, 8, none⟩), .pointer (some ⟨b, 9, none⟩), .pointer (some ⟨b, 10, none⟩), .pointer (some ⟨b, 11, none⟩), .pointer (some ⟨b, 12, none⟩), .pointer (some ⟨b, 13, none⟩), .pointer (some ⟨b, 14, none⟩)]
theorem ptrs_at (b k : Nat) (hk : k < 15) : (ptrs b)[k]? = some (.pointer (some ⟨b, k, none⟩)) := by
  match k, hk with
  | 0, _ | 1, _ | 2, _ | 3, _ | 4, _ | 5, _ | 6, _ | 7, _ | 8, _ | 9, _ | 10, _ | 11, _ | 12, _ | 13, _ | 14, _ => rfl
set_option maxRecDepth 100000 in
theorem places_any (b : Nat) (w : World) : Calls Tryd.prog 54 #[.pointer (some ⟨b, 0, none⟩)] w fun e w' => e = .returned (.agg (ptrs b)) ∧ Below w.heap.size w w' := by
  go_enter Tryd.func54, Tryd.ntmps54
  go_wp2_with fail
  go_still_tail 46, (by kernel_rfl)
  refine store_blk (C := ptrs b) (by rfl) _ _ (by rfl) (by rfl) (by rfl) (Blk.drew (Blk.new w _ _)) (by rfl) (by kernel_rfl) (by simp [ptrs, Value.oneCell']) ?_
  intro w1 hb1 ho1
  have hB := only_below (((Below.refl w.heap.size w).alloc (Nat.le_refl _) _).drew) ho1 (Nat.le_refl _)
  have hL := loadVar_blk hb1 _ Tryd.underlying79 rfl (by kernel_rfl)
  have HB := Lib.hid hB
  clear hB ho1
  go_wp2
  exact bodyPost_ret (results_cell Tryd.results54 rfl hL) rfl ⟨rfl, HB.out⟩
/-- The bounds of a config whose life and room are so. -/
def boundsA (life per : Int) : Array Value := #[.int .i64 1, .int .i64 1024, .int .i64 1, .int .i64 8, .int .i64 1, .int .i64 32, .int .i64 0, .int .i64 16, .int .i64 1, .int .i64 1048576, .int .i64 1, .int .i64 1048576, .int .i64 1, .int .i64 1048576,
  .int .i64 0, .int .i64 life, .int .i64 1, .int .i64 1048576, .int .i64 0, .int .i64 per, .int .i64 1, .int .i64 1048576, .int .i64 1, .int .i64 16, .int .i64 1, .int .i64 1048576, .int .i64 1, .int .i64 1048576, .int .i64 0, .int .i64 256]
set_option maxRecDepth 100000 in
theorem bounds_any (C : Array Value) (life per : Int) (h6 : C[6]? = some (.int .i64 life)) (h1 : C[1]? = some (.int .i64 per)) (w : World) :
    Calls Tryd.prog 57 #[.agg C] w fun e w' => e = .returned (.agg (boundsA life per)) ∧ Below w.heap.size w w' := by
  go_enter Tryd.func57, Tryd.ntmps57
  go_wp2_with (refine store_blk (C := boundsA life per) (by rfl) _ _ (by rfl) (by rfl) (by rfl) (heap_at_old (by simp) (heap_at_new _ (by simp))) (by rfl) (by kernel_rfl) (by simp [boundsA, Value.oneCell']) ?_; intro w1 hb1 ho1)
  have hB := only_below (w := w) (((Below.refl w.heap.size w).alloc (Nat.le_refl _) _).alloc (by simp) _ |>.alloc (by simp; omega) _) ho1 (by simp)
  exact bodyPost_ret (results_cell Tryd.results57 rfl (loadVar_blk hb1 _ Tryd.underlying83 rfl (by kernel_rfl))) rfl ⟨rfl, hB⟩
end Go.Proofs.YtogomkkglcddmaaDoor.Cf
